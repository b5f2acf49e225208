/-
  NARROWER THAN 'FOR EVERY INPUT', by the rows' own cells (each row's printed sentence says how): MeanRules: loops · MeanCats: loops · MeanTimes: loops · MeanLonger: loops · MeanStars: loops · MeanOwn: loops · SideCosts: loops.
  DERIVED. THE GIVEN ROWS OF THIS SEAT. 7 by the template 'for every input the law returns true; each argument reads behind the call as it read before'; 0 by the template 'total and deterministic' (their statements: YtcnbopgbmimkcaaGreatTotals.lean).
  GIVEN WITH THE SEED: the statements are not yours to turn. If you find one false, say at which input.
  Laid BY PROGRAM, IN A SANDBOX (cutbox-rows.mjs): the forced cells as the released guide's own fill.sh prints them over the translation d66ca1374fffcac5… (all of the seat's roots in one cut). By AI agents, Wed Nov 11 2026. No macro, syntax, notation, axiom, sorry.
-/
import Derived.Test.YtcnbopgbmimkcaaGreatChecked
import GoSem.Claim
import GoSem.ClaimJoined
import GoSem.ClaimMapViews
import Derived.JoinedTies
import Derived.KernelRfl
namespace Go.Proofs.YtcnbopgbmimkcaaGreat
/- THE CELL 'sum', in the pinned program and in every row, IS THE sha256 OF THE DUMP (.gsa) THAT YtcnbopgbmimkcaaGreatProg.lean LOADS. Nothing in Lean hashes anything: it is a label: what it is worth is what the hold of that sum in a sandbox is worth. -/
noncomputable def Tryz.pinned : Pinned := { name := "ytcnbopgbmimkcaagreat", sum := "d66ca1374fffcac56c81324b0a94dca0321e47a7c6ddd1ecedebdb5746cb4e30", checked := Tryz.checked }
namespace Rows
def none {H : Type} : Left H := { results := [], args := [] }

/-- 'hyphenlaw6.MeanRules': WHATEVER THE INPUT: true; the input reads as it did. -/
def meanRulesSpec : ChangeSpec := { name := "meanRules", fn := fun _ => fun
  | [d1, d2, d3, d4, d5, d6] => { results := [.lit (.bool true)], args := [d1, d2, d3, d4, d5, d6] }
  | _ => none }
def meanRulesRow : OpenClaim := { program := "ytcnbopgbmimkcaagreat", sum := "d66ca1374fffcac56c81324b0a94dca0321e47a7c6ddd1ecedebdb5746cb4e30", func := "hyphen/hyphenlaw6.MeanRules", spec := "meanRules", unfollowed := true, recurses := true, loops := true, plainKeys := false, apart := false }
def MeanRulesSaid : Prop := meanRulesRow.holds Tryz.pinned (OpenSpec.ofChange meanRulesSpec)

/-- ITS FALSE NEIGHBOUR: 'it returns false'. Refute it at one input. -/
def meanRulesWrong : ChangeSpec := { name := "meanRules", fn := fun _ => fun
  | [d1, d2, d3, d4, d5, d6] => { results := [.lit (.bool false)], args := [d1, d2, d3, d4, d5, d6] }
  | _ => none }
def MeanRulesWrongFalsely : Prop := meanRulesRow.holds Tryz.pinned (OpenSpec.ofChange meanRulesWrong)

/-- 'hyphenlaw6.MeanCats': WHATEVER THE INPUT: true; the input reads as it did. -/
def meanCatsSpec : ChangeSpec := { name := "meanCats", fn := fun _ => fun
  | [d1, d2, d3] => { results := [.lit (.bool true)], args := [d1, d2, d3] }
  | _ => none }
def meanCatsRow : OpenClaim := { program := "ytcnbopgbmimkcaagreat", sum := "d66ca1374fffcac56c81324b0a94dca0321e47a7c6ddd1ecedebdb5746cb4e30", func := "hyphen/hyphenlaw6.MeanCats", spec := "meanCats", unfollowed := true, recurses := true, loops := true, plainKeys := false, apart := false }
def MeanCatsSaid : Prop := meanCatsRow.holds Tryz.pinned (OpenSpec.ofChange meanCatsSpec)

/-- ITS FALSE NEIGHBOUR: 'it returns false'. Refute it at one input. -/
def meanCatsWrong : ChangeSpec := { name := "meanCats", fn := fun _ => fun
  | [d1, d2, d3] => { results := [.lit (.bool false)], args := [d1, d2, d3] }
  | _ => none }
def MeanCatsWrongFalsely : Prop := meanCatsRow.holds Tryz.pinned (OpenSpec.ofChange meanCatsWrong)

/-- 'hyphenlaw6.MeanTimes': WHATEVER THE INPUT: true; the input reads as it did. -/
def meanTimesSpec : ChangeSpec := { name := "meanTimes", fn := fun _ => fun
  | [d1, d2, d3, d4, d5] => { results := [.lit (.bool true)], args := [d1, d2, d3, d4, d5] }
  | _ => none }
def meanTimesRow : OpenClaim := { program := "ytcnbopgbmimkcaagreat", sum := "d66ca1374fffcac56c81324b0a94dca0321e47a7c6ddd1ecedebdb5746cb4e30", func := "hyphen/hyphenlaw6.MeanTimes", spec := "meanTimes", unfollowed := true, recurses := true, loops := true, plainKeys := false, apart := false }
def MeanTimesSaid : Prop := meanTimesRow.holds Tryz.pinned (OpenSpec.ofChange meanTimesSpec)

/-- ITS FALSE NEIGHBOUR: 'it returns false'. Refute it at one input. -/
def meanTimesWrong : ChangeSpec := { name := "meanTimes", fn := fun _ => fun
  | [d1, d2, d3, d4, d5] => { results := [.lit (.bool false)], args := [d1, d2, d3, d4, d5] }
  | _ => none }
def MeanTimesWrongFalsely : Prop := meanTimesRow.holds Tryz.pinned (OpenSpec.ofChange meanTimesWrong)

/-- 'hyphenlaw6.MeanLonger': WHATEVER THE INPUT: true; the input reads as it did. -/
def meanLongerSpec : ChangeSpec := { name := "meanLonger", fn := fun _ => fun
  | [d1, d2, d3, d4] => { results := [.lit (.bool true)], args := [d1, d2, d3, d4] }
  | _ => none }
def meanLongerRow : OpenClaim := { program := "ytcnbopgbmimkcaagreat", sum := "d66ca1374fffcac56c81324b0a94dca0321e47a7c6ddd1ecedebdb5746cb4e30", func := "hyphen/hyphenlaw6.MeanLonger", spec := "meanLonger", unfollowed := true, recurses := true, loops := true, plainKeys := false, apart := false }
def MeanLongerSaid : Prop := meanLongerRow.holds Tryz.pinned (OpenSpec.ofChange meanLongerSpec)

/-- ITS FALSE NEIGHBOUR: 'it returns false'. Refute it at one input. -/
def meanLongerWrong : ChangeSpec := { name := "meanLonger", fn := fun _ => fun
  | [d1, d2, d3, d4] => { results := [.lit (.bool false)], args := [d1, d2, d3, d4] }
  | _ => none }
def MeanLongerWrongFalsely : Prop := meanLongerRow.holds Tryz.pinned (OpenSpec.ofChange meanLongerWrong)

/-- 'hyphenlaw6.MeanStars': WHATEVER THE INPUT: true; the input reads as it did. -/
def meanStarsSpec : ChangeSpec := { name := "meanStars", fn := fun _ => fun
  | [d1, d2, d3] => { results := [.lit (.bool true)], args := [d1, d2, d3] }
  | _ => none }
def meanStarsRow : OpenClaim := { program := "ytcnbopgbmimkcaagreat", sum := "d66ca1374fffcac56c81324b0a94dca0321e47a7c6ddd1ecedebdb5746cb4e30", func := "hyphen/hyphenlaw6.MeanStars", spec := "meanStars", unfollowed := true, recurses := true, loops := true, plainKeys := false, apart := false }
def MeanStarsSaid : Prop := meanStarsRow.holds Tryz.pinned (OpenSpec.ofChange meanStarsSpec)

/-- ITS FALSE NEIGHBOUR: 'it returns false'. Refute it at one input. -/
def meanStarsWrong : ChangeSpec := { name := "meanStars", fn := fun _ => fun
  | [d1, d2, d3] => { results := [.lit (.bool false)], args := [d1, d2, d3] }
  | _ => none }
def MeanStarsWrongFalsely : Prop := meanStarsRow.holds Tryz.pinned (OpenSpec.ofChange meanStarsWrong)

/-- 'hyphenlaw6.MeanOwn': WHATEVER THE INPUT: true; the input reads as it did. -/
def meanOwnSpec : ChangeSpec := { name := "meanOwn", fn := fun _ => fun
  | [d1, d2, d3] => { results := [.lit (.bool true)], args := [d1, d2, d3] }
  | _ => none }
def meanOwnRow : OpenClaim := { program := "ytcnbopgbmimkcaagreat", sum := "d66ca1374fffcac56c81324b0a94dca0321e47a7c6ddd1ecedebdb5746cb4e30", func := "hyphen/hyphenlaw6.MeanOwn", spec := "meanOwn", unfollowed := true, recurses := true, loops := true, plainKeys := false, apart := false }
def MeanOwnSaid : Prop := meanOwnRow.holds Tryz.pinned (OpenSpec.ofChange meanOwnSpec)

/-- ITS FALSE NEIGHBOUR: 'it returns false'. Refute it at one input. -/
def meanOwnWrong : ChangeSpec := { name := "meanOwn", fn := fun _ => fun
  | [d1, d2, d3] => { results := [.lit (.bool false)], args := [d1, d2, d3] }
  | _ => none }
def MeanOwnWrongFalsely : Prop := meanOwnRow.holds Tryz.pinned (OpenSpec.ofChange meanOwnWrong)

/-- 'hyphenlaw7.SideCosts': WHATEVER THE INPUT: true; the input reads as it did. -/
def sideCostsSpec : ChangeSpec := { name := "sideCosts", fn := fun _ => fun
  | [d1, d2, d3] => { results := [.lit (.bool true)], args := [d1, d2, d3] }
  | _ => none }
def sideCostsRow : OpenClaim := { program := "ytcnbopgbmimkcaagreat", sum := "d66ca1374fffcac56c81324b0a94dca0321e47a7c6ddd1ecedebdb5746cb4e30", func := "hyphen/hyphenlaw7.SideCosts", spec := "sideCosts", unfollowed := true, recurses := true, loops := true, plainKeys := false, apart := false }
def SideCostsSaid : Prop := sideCostsRow.holds Tryz.pinned (OpenSpec.ofChange sideCostsSpec)

/-- ITS FALSE NEIGHBOUR: 'it returns false'. Refute it at one input. -/
def sideCostsWrong : ChangeSpec := { name := "sideCosts", fn := fun _ => fun
  | [d1, d2, d3] => { results := [.lit (.bool false)], args := [d1, d2, d3] }
  | _ => none }
def SideCostsWrongFalsely : Prop := sideCostsRow.holds Tryz.pinned (OpenSpec.ofChange sideCostsWrong)

/- THE SECOND FORM. 'bulk': how many values and letters a reading holds, each counted each time it is reached (what is shared counts as often as it is met; a slice's spare places count too). A statement '..UptoSaid' is the law's where the arguments, and the package variables that the reading takes, are together of bulk at most 1048576: NARROWER than '..Said'. Prove '..Said' where nothing that the law and all that it calls make is longer than what came in: it says more and counts as full. Else prove '..UptoSaid'. A law counts once. -/
mutual
def uptoBulk {H : Type} : DataW H → Nat
  | .lit (.string bytes) => bytes.length + 1
  | .lit _ => 1
  | .nil => 1
  | .ptr d => uptoBulk d + 1
  | .slice elems spare => uptoBulkAll elems + uptoBulkAll spare + 1
  | .agg parts => uptoBulkAll parts + 1
  | .iface _ d => uptoBulk d + 1
  | .map entries => uptoBulkEntries entries + 1
  | .held _ => 1
def uptoBulkAll {H : Type} : List (DataW H) → Nat
  | [] => 0
  | d :: r => uptoBulk d + uptoBulkAll r
def uptoBulkEntries {H : Type} : List (Lit × DataW H) → Nat
  | [] => 0
  | x :: r => uptoBulkEntry x + uptoBulkEntries r
def uptoBulkEntry {H : Type} : Lit × DataW H → Nat
  | (.string bytes, d) => bytes.length + uptoBulk d + 1
  | (_, d) => uptoBulk d + 1
 end
def uptoSmall : (H : Type) → List (DataW H) → Bool := fun _ ds => decide (uptoBulkAll ds ≤ 1048576)
def OpenSpec.upto (s : _root_.Go.ChangeSpec) : _root_.Go.OpenSpec := { _root_.Go.OpenSpec.ofChange s with cond := some uptoSmall }

/-- 'hyphenlaw6.MeanRules', WHERE WHAT IT READS IS OF BULK AT MOST 1048576: true; the input reads as it did. -/
def meanRulesUptoRow : OpenClaim := { program := "ytcnbopgbmimkcaagreat", sum := "d66ca1374fffcac56c81324b0a94dca0321e47a7c6ddd1ecedebdb5746cb4e30", func := "hyphen/hyphenlaw6.MeanRules", spec := "meanRules", unfollowed := true, recurses := true, loops := true, plainKeys := false, apart := false, narrowed := true }
def MeanRulesUptoSaid : Prop := meanRulesUptoRow.holds Tryz.pinned (OpenSpec.upto meanRulesSpec)

/-- 'hyphenlaw6.MeanCats', WHERE WHAT IT READS IS OF BULK AT MOST 1048576: true; the input reads as it did. -/
def meanCatsUptoRow : OpenClaim := { program := "ytcnbopgbmimkcaagreat", sum := "d66ca1374fffcac56c81324b0a94dca0321e47a7c6ddd1ecedebdb5746cb4e30", func := "hyphen/hyphenlaw6.MeanCats", spec := "meanCats", unfollowed := true, recurses := true, loops := true, plainKeys := false, apart := false, narrowed := true }
def MeanCatsUptoSaid : Prop := meanCatsUptoRow.holds Tryz.pinned (OpenSpec.upto meanCatsSpec)

/-- 'hyphenlaw6.MeanTimes', WHERE WHAT IT READS IS OF BULK AT MOST 1048576: true; the input reads as it did. -/
def meanTimesUptoRow : OpenClaim := { program := "ytcnbopgbmimkcaagreat", sum := "d66ca1374fffcac56c81324b0a94dca0321e47a7c6ddd1ecedebdb5746cb4e30", func := "hyphen/hyphenlaw6.MeanTimes", spec := "meanTimes", unfollowed := true, recurses := true, loops := true, plainKeys := false, apart := false, narrowed := true }
def MeanTimesUptoSaid : Prop := meanTimesUptoRow.holds Tryz.pinned (OpenSpec.upto meanTimesSpec)

/-- 'hyphenlaw6.MeanLonger', WHERE WHAT IT READS IS OF BULK AT MOST 1048576: true; the input reads as it did. -/
def meanLongerUptoRow : OpenClaim := { program := "ytcnbopgbmimkcaagreat", sum := "d66ca1374fffcac56c81324b0a94dca0321e47a7c6ddd1ecedebdb5746cb4e30", func := "hyphen/hyphenlaw6.MeanLonger", spec := "meanLonger", unfollowed := true, recurses := true, loops := true, plainKeys := false, apart := false, narrowed := true }
def MeanLongerUptoSaid : Prop := meanLongerUptoRow.holds Tryz.pinned (OpenSpec.upto meanLongerSpec)

/-- 'hyphenlaw6.MeanStars', WHERE WHAT IT READS IS OF BULK AT MOST 1048576: true; the input reads as it did. -/
def meanStarsUptoRow : OpenClaim := { program := "ytcnbopgbmimkcaagreat", sum := "d66ca1374fffcac56c81324b0a94dca0321e47a7c6ddd1ecedebdb5746cb4e30", func := "hyphen/hyphenlaw6.MeanStars", spec := "meanStars", unfollowed := true, recurses := true, loops := true, plainKeys := false, apart := false, narrowed := true }
def MeanStarsUptoSaid : Prop := meanStarsUptoRow.holds Tryz.pinned (OpenSpec.upto meanStarsSpec)

/-- 'hyphenlaw6.MeanOwn', WHERE WHAT IT READS IS OF BULK AT MOST 1048576: true; the input reads as it did. -/
def meanOwnUptoRow : OpenClaim := { program := "ytcnbopgbmimkcaagreat", sum := "d66ca1374fffcac56c81324b0a94dca0321e47a7c6ddd1ecedebdb5746cb4e30", func := "hyphen/hyphenlaw6.MeanOwn", spec := "meanOwn", unfollowed := true, recurses := true, loops := true, plainKeys := false, apart := false, narrowed := true }
def MeanOwnUptoSaid : Prop := meanOwnUptoRow.holds Tryz.pinned (OpenSpec.upto meanOwnSpec)

/-- 'hyphenlaw7.SideCosts', WHERE WHAT IT READS IS OF BULK AT MOST 1048576: true; the input reads as it did. -/
def sideCostsUptoRow : OpenClaim := { program := "ytcnbopgbmimkcaagreat", sum := "d66ca1374fffcac56c81324b0a94dca0321e47a7c6ddd1ecedebdb5746cb4e30", func := "hyphen/hyphenlaw7.SideCosts", spec := "sideCosts", unfollowed := true, recurses := true, loops := true, plainKeys := false, apart := false, narrowed := true }
def SideCostsUptoSaid : Prop := sideCostsUptoRow.holds Tryz.pinned (OpenSpec.upto sideCostsSpec)

end Rows
end Go.Proofs.YtcnbopgbmimkcaaGreat
