/- Functions of the program, one by one, in the machine FM; plain laws of what they answer. -/
import Derived.Test.YtcnbopgbmimkcaaGreatWalkA
set_option linter.all false
set_option linter.unusedSimpArgs false
set_option linter.unusedVariables false
set_option linter.unnecessarySimpa false
set_option linter.unusedSectionVars false
section
set_option autoImplicit false
set_option maxRecDepth 100000
set_option linter.unusedSimpArgs false
set_option linter.unusedVariables false
namespace Go.Proofs.YtcnbopgbmimkcaaGreat
open Go Go.Fm Go.Proofs
@[simp] theorem pass_e (L : Heap) (leaky : Bool) (v : V) (vs : List V) : pass L leaky [] (v :: vs) = passC (passV L leaky v) (pass L leaky [] vs) := pass_plain L leaky _ v vs rfl
section
variable {v : V} {sc : List Int} (hv : Slc v sc) (hl : sc.length < 900000)
include hv hl
theorem run_bare (x : Px) (hb : x.bare = true) (c : List Int) (hc : Good (sc.length + 1) c) : call T F_mean_text_run [txt v setsM, .agg x.cells, ints c] = some (ints (c.map fun y => addI y x.noth), []) := by
  have hv1 := hv.pl
  have hv2 := hv.cl
  have hp : plain (txt v setsM) = true := by simp [hv1]
  have hbe := bare_eq x
  have hno := nothing_eq x
  have hd := dearer_eq (txt v setsM) (by simp [hv1]) (by simp [hv2]) c x.noth x.noth_nn (by have := hc.len; omega) (by have := hc.len; omega) hc.nn
  rw [hb] at hbe
  rw [call_code T T_mean_text_run, enter_args (by simp [hv1])]
  simp (disch := first | omega | assumption | simp) [hv1, hv2, hbe, hno, hd]
theorem run_on (x : Px) (hb : x.bare = false) (f : Int → Bool) (hx : takeN false 1 x.cells = some (.int .i64 2) ∨ takeN false 1 x.cells = some (.int .i64 3)) (hf : ∀ n ∈ sc, call T F_mean_text_of [txt v setsM, .agg x.cells, .int .i64 n] = some (.bool (f n), [])) (c : List Int) (hc : Good (sc.length + 1) c) : call T F_mean_text_run [txt v setsM, .agg x.cells, ints c] = some (ints (INF :: onL f sc c), []) := by
  have hv1 := hv.pl
  have hv2 := hv.cl
  have hp : plain (txt v setsM) = true := by simp [hv1]
  have hbe := bare_eq x
  have ho := on_eq x v setsM sc hv (by simp) (by simp) f hf c hc.len (by omega)
  rw [hb] at hbe
  rw [call_code T T_mean_text_run, enter_args (by simp [hv1])]
  rcases hx with hx | hx
  · simp (disch := first | omega | assumption | simp) [hv1, hv2, hbe, ho, hx]
  · simp (disch := first | omega | assumption | simp) [hv1, hv2, hbe, ho, hx]
theorem run_cat (a b : Px) (hb : (Px.cat a b).bare = false) (A B : List Int → List Int) (c : List Int) (ha : call T F_mean_text_run [txt v setsM, .agg a.cells, ints c] = some (ints (A c), [])) (hb' : call T F_mean_text_run [txt v setsM, .agg b.cells, ints (A c)] = some (ints (B (A c)), [])) (hc : Good (sc.length + 1) c) : call T F_mean_text_run [txt v setsM, .agg (Px.cat a b).cells, ints c] = some (ints (B (A c)), []) := by
  have hv1 := hv.pl
  have hv2 := hv.cl
  have hp : plain (txt v setsM) = true := by simp [hv1]
  have hbe := bare_eq (Px.cat a b)
  have h0 : call T F_mean_text_run_1 [.int .i64 0, .ro .old (Px.cat a b).cells] = _ := part_eq (Px.cat a b) 0 a rfl
  have h1 : call T F_mean_text_run_1 [.int .i64 1, .ro .old (Px.cat a b).cells] = _ := part_eq (Px.cat a b) 1 b rfl
  have hno := px_noOld (Px.cat a b)
  have hpl := px_plain1 (Px.cat a b)
  rw [hb] at hbe
  rw [call_code T T_mean_text_run, enter_args (by simp [hv1])]
  have hk : takeN false 1 (Px.cat a b).cells = some (.int .i64 4) := rfl
  simp (disch := first | omega | assumption | simp) [hv1, hv2, hbe, h0, h1, hk, ha, hb', finQ_agg]
theorem run_alt (a b : Px) (hb : (Px.alt a b).bare = false) (A B : List Int) (c : List Int) (ha : call T F_mean_text_run [txt v setsM, .agg a.cells, ints c] = some (ints A, [])) (hb' : call T F_mean_text_run [txt v setsM, .agg b.cells, ints c] = some (ints B, [])) (hA : Good (sc.length + 1) A) (hB : Good (sc.length + 1) B) : call T F_mean_text_run [txt v setsM, .agg (Px.alt a b).cells, ints c] = some (ints (leastF A B), []) := by
  have hv1 := hv.pl
  have hv2 := hv.cl
  have hp : plain (txt v setsM) = true := by simp [hv1]
  have hbe := bare_eq (Px.alt a b)
  have h0 : call T F_mean_text_run_1 [.int .i64 0, .ro .old (Px.alt a b).cells] = _ := part_eq (Px.alt a b) 0 a rfl
  have h1 : call T F_mean_text_run_1 [.int .i64 1, .ro .old (Px.alt a b).cells] = _ := part_eq (Px.alt a b) 1 b rfl
  have hno := px_noOld (Px.alt a b)
  have hpl := px_plain1 (Px.alt a b)
  have hAl := hA.len
  have hBl := hB.len
  have hle := least_eq A B (by omega) (by omega) (by omega)
  rw [hb] at hbe
  rw [call_code T T_mean_text_run, enter_args (by simp [hv1])]
  have hk : takeN false 1 (Px.alt a b).cells = some (.int .i64 5) := rfl
  simp (disch := first | omega | assumption | simp) [hv1, hv2, hbe, h0, h1, hk, ha, hb', finQ_agg, hle]
theorem run_star (a : Px) (hb : (Px.star a).bare = false) (R : List Int → List Int) (hR : ∀ c, Good (sc.length + 1) c → call T F_mean_text_run [txt v setsM, .agg a.cells, ints c] = some (ints (R c), []) ∧ Good (sc.length + 1) (R c)) (c : List Int) (hc : Good (sc.length + 1) c) :
    call T F_mean_text_run [txt v setsM, .agg (Px.star a).cells, ints c] = some (ints (oftenF R sc.length c c), []) := by
  have hv1 := hv.pl
  have hv2 := hv.cl
  have hlen := hv.len
  have hp : plain (txt v setsM) = true := by simp [hv1]
  have hbe := bare_eq (Px.star a)
  have h0 : call T F_mean_text_run_1 [.int .i64 0, .ro .old (Px.star a).cells] = _ := part_eq (Px.star a) 0 a rfl
  have hno := px_noOld (Px.star a)
  have hpl := px_plain1 (Px.star a)
  have ho := often_eq v setsM hv1 hv2 (by simp) (by simp) a (sc.length + 1) (by omega) (by omega) R hR sc.length (by omega) c hc
  rw [hb] at hbe
  rw [call_code T T_mean_text_run, enter_args (by simp [hv1])]
  have hk : takeN false 1 (Px.star a).cells = some (.int .i64 6) := rfl
  simp (disch := first | omega | assumption | simp) [hv1, hv2, hbe, h0, hk, ho, finQ_agg, hlen]
theorem run_weight (a : Px) (w : Nat) (hw : w < 1000) (hb : (Px.weight a w).bare = false) (A : List Int) (c : List Int) (ha : call T F_mean_text_run [txt v setsM, .agg a.cells, ints c] = some (ints A, [])) (hA : Good (sc.length + 1) A) : call T F_mean_text_run [txt v setsM, .agg (Px.weight a w).cells, ints c] = some (ints (A.map fun y => addI y w), []) := by
  have hv1 := hv.pl
  have hv2 := hv.cl
  have hp : plain (txt v setsM) = true := by simp [hv1]
  have hbe := bare_eq (Px.weight a w)
  have h0 : call T F_mean_text_run_1 [.int .i64 0, .ro .old (Px.weight a w).cells] = _ := part_eq (Px.weight a w) 0 a rfl
  have hno := px_noOld (Px.weight a w)
  have hpl := px_plain1 (Px.weight a w)
  have hAl := hA.len
  have hd := dearer_eq (txt v setsM) hp (by simp [hv2]) A w (by omega) (by omega) (by omega) hA.nn
  rw [hb] at hbe
  rw [call_code T T_mean_text_run, enter_args (by simp [hv1])]
  have hk : takeN false 1 (Px.weight a w).cells = some (.int .i64 8) := rfl
  have hk3 : takeN false 1 ((Px.weight a w).cells.drop 3) = some (.int .i64 w) := rfl
  simp (disch := first | omega | assumption | simp) [hv1, hv2, hbe, h0, hk, hk3, ha, finQ_agg, hd]
end
end Go.Proofs.YtcnbopgbmimkcaaGreat
end

section
set_option autoImplicit false
set_option maxRecDepth 100000
set_option linter.unusedSimpArgs false
set_option linter.unusedVariables false
namespace Go.Proofs.YtcnbopgbmimkcaaGreat
open Go Go.Fm Go.Proofs
theorem times_loop {v : V} {sc : List Int} (hv : Slc v sc) (hl : sc.length < 900000) (a : Px) (lo hi : Nat) (hlh : lo ≤ hi) (hi1 : hi < 1000) (R : List Int → List Int)
    (hR : ∀ c, Good (sc.length + 1) c → call T F_mean_text_run [txt v setsM, .agg a.cells, ints c] = some (ints (R c), []) ∧ Good (sc.length + 1) (R c)) : ∀ (k i : Nat) (env : Tr V) (L : Heap) (nx : Nat) (c : List Int), k = lo - i → i ≤ lo → Good (sc.length + 1) c →
    Fm.look env 2 = ints c → Fm.look env 3 = .pt 0 0 0 → Fm.look env 4 = .pt 1 0 0 → Fm.look env 7 = .fn F_mean_text_run_1 [] [.pt 1 0 0] → Fm.look env 64 = .int .i64 (lo : Int) → Fm.look env 65 = .int .i64 (i : Int) →
    L.get 0 = some (.box [v, setsM]) → L.get 1 = some (.box (Px.times a lo hi).cells) → 2 ≤ nx →
    Fm.run T fi_mean_text_run [.inL c_mean_text_run_13, .inB 1, .code c_mean_text_run_5, .inB 0, .code c_mean_text_run_0] ⟨env, L, nx, []⟩ = some (ints (oftenF R (hi - lo) (timesF R (lo - i) c) (timesF R (lo - i) c)), []) := by
  have hv1 := hv.pl
  have hv2 := hv.cl
  have hlen := hv.len
  have hp : plain (txt v setsM) = true := by simp [hv1]
  have h0 : call T F_mean_text_run_1 [.int .i64 0, .ro .old (Px.times a lo hi).cells] = _ := part_eq (Px.times a lo hi) 0 a rfl
  have hno := px_noOld (Px.times a lo hi)
  have hpl := px_plain1 (Px.times a lo hi)
  have hk1 : takeN false 1 (Px.times a lo hi).cells.tail = some (.int .i64 lo) := rfl
  have hk2 : takeN false 1 ((Px.times a lo hi).cells.drop 2) = some (.int .i64 hi) := rfl
  have hsub : (hi : Int) - (lo : Int) = ((hi - lo : Nat) : Int) := by omega
  have hof := fun c hc => often_eq v setsM hv1 hv2 (by simp) (by simp) a (sc.length + 1) (by omega) (by omega) R hR (hi - lo) (by omega) c hc
  intro k
  induction k with
  | zero =>
    intro i env L nx c hn hi' hc h2 h3 h4 h7 h64 h65 hL0 hL1 hnx
    have : ¬ ((i : Int) < (lo : Int)) := by omega
    have e : lo - i = 0 := by omega
    have hof := hof c hc
    rw [run_inL, e, timesF]
    simp (disch := first | omega | assumption | simp) [h2, h3, h4, h7, h64, h65, hL0, hL1, this, hk1, hk2, h0, finQ_agg, hsub, hof]
  | succ k ih =>
    intro i env L nx c hn hi' hc h2 h3 h4 h7 h64 h65 hL0 hL1 hnx
    have hlt : (i : Int) < (lo : Int) := by omega
    have e : lo - i = (lo - (i + 1)) + 1 := by omega
    obtain ⟨hr, hg⟩ := hR c hc
    have heq := Equal_eq (R c) c (by rw [hc.len, hg.len]) (by rw [hg.len]; omega)
    have hof := hof c hc
    rw [run_inL, e, timesF]
    by_cases hsame : R c = c
    · have hb : (R c == c) = true := by simpa using hsame
      rw [if_pos hsame]
      rw [hsame] at hr heq
      simp at heq
      simp (disch := first | omega | assumption | simp) [h2, h3, h4, h7, h64, h65, hL0, hL1, hlt, hk1, hk2, h0, finQ_agg, hsub, hof, hr, heq]
    · have hb : (R c == c) = false := by simpa using hsame
      rw [if_neg hsame]
      simp (disch := first | omega | assumption | simp) [h2, h3, h4, h7, h64, h65, hL0, hL1, hlt, h0, finQ_agg, hr, heq, hb]
      refine ih (i + 1) _ _ _ (R c) (by omega) (by omega) hg (by simp) (by simp [h3]) (by simp [h4]) (by simp [h7]) (by simp [h64]) (by simp) (by simp (disch := omega) [hL0]) (by simp (disch := omega) [hL1]) (by omega)
theorem run_times {v : V} {sc : List Int} (hv : Slc v sc) (hl : sc.length < 900000) (a : Px) (lo hi : Nat) (hlh : lo ≤ hi) (hi1 : hi < 1000) (hb : (Px.times a lo hi).bare = false) (R : List Int → List Int)
    (hR : ∀ c, Good (sc.length + 1) c → call T F_mean_text_run [txt v setsM, .agg a.cells, ints c] = some (ints (R c), []) ∧ Good (sc.length + 1) (R c)) (c : List Int) (hc : Good (sc.length + 1) c) :
    call T F_mean_text_run [txt v setsM, .agg (Px.times a lo hi).cells, ints c] = some (ints (oftenF R (hi - lo) (timesF R lo c) (timesF R lo c)), []) := by
  have hv1 := hv.pl
  have hv2 := hv.cl
  have hp : plain (txt v setsM) = true := by simp [hv1]
  have hbe := bare_eq (Px.times a lo hi)
  have hno := px_noOld (Px.times a lo hi)
  have hpl := px_plain1 (Px.times a lo hi)
  rw [hb] at hbe
  rw [call_code T T_mean_text_run, enter_args (by simp [hv1])]
  have hk : takeN false 1 (Px.times a lo hi).cells = some (.int .i64 7) := rfl
  have hk1 : takeN false 1 (Px.times a lo hi).cells.tail = some (.int .i64 lo) := rfl
  simp (disch := first | omega | assumption | simp) [hv1, hv2, hbe, hk, hk1, finQ_agg]
  exact times_loop hv hl a lo hi hlh hi1 R hR lo 0 _ _ 2 c (by omega) (by omega) hc (by simp) (by simp) (by simp) (by simp) (by simp) (by simp) (by simp) (by simp) (by omega)
/-- What `text.run` says. -/
theorem run_eq {v : V} {sc : List Int} (hv : Slc v sc) (hl : sc.length < 900000) (x : Px) : x.ok = true → ∀ c, Good (sc.length + 1) c → call T F_mean_text_run [txt v setsM, .agg x.cells, ints c] = some (ints (x.run sc c), []) := by
  induction x with
  | none => exact fun _ c hc => run_bare hv hl .none rfl c hc
  | set nm => exact fun h c hc => run_on hv hl (.set nm) rfl _ (.inl rfl) (fun n _ => of_set v hv.pl hv.cl nm (by simpa [Px.ok] using h) n) c hc
  | any => exact fun _ c hc => run_on hv hl .any rfl _ (.inr rfl) (fun n _ => of_any v hv.pl hv.cl n) c hc
  | cat a b ha hb =>
    intro h c hc
    simp only [Px.ok, Bool.and_eq_true] at h
    simp only [Px.run]
    split <;> rename_i hn
    · exact run_bare hv hl _ hn c hc
    · exact run_cat hv hl a b (Bool.eq_false_iff.2 hn) _ _ c (ha h.1 c hc) (hb h.2 _ (a.run_good sc c hc)) hc
  | alt a b ha hb =>
    intro h c hc
    simp only [Px.ok, Bool.and_eq_true] at h
    simp only [Px.run]
    split <;> rename_i hn
    · exact run_bare hv hl _ hn c hc
    · exact run_alt hv hl a b (Bool.eq_false_iff.2 hn) _ _ c (ha h.1 c hc) (hb h.2 c hc) (a.run_good sc c hc) (b.run_good sc c hc)
  | star a ha =>
    intro h c hc
    simp only [Px.ok] at h
    simp only [Px.run]
    split <;> rename_i hn
    · exact run_bare hv hl _ hn c hc
    · exact run_star hv hl a (Bool.eq_false_iff.2 hn) _ (fun c hc => ⟨ha h c hc, a.run_good sc c hc⟩) c hc
  | times a lo hi ha =>
    intro h c hc
    simp only [Px.ok, Bool.and_eq_true, decide_eq_true_eq] at h
    simp only [Px.run]
    split <;> rename_i hn
    · exact run_bare hv hl _ hn c hc
    · exact run_times hv hl a lo hi h.1.2 (by omega) (Bool.eq_false_iff.2 hn) _ (fun c hc => ⟨ha h.1.1 c hc, a.run_good sc c hc⟩) c hc
  | weight a w ha =>
    intro h c hc
    simp only [Px.ok, Bool.and_eq_true, decide_eq_true_eq] at h
    simp only [Px.run]
    split <;> rename_i hn
    · exact run_bare hv hl _ hn c hc
    · exact run_weight hv hl a w h.2 (Bool.eq_false_iff.2 hn) _ c (ha h.1 c hc) (a.run_good sc c hc)
end Go.Proofs.YtcnbopgbmimkcaaGreat
end

section
set_option autoImplicit false
set_option maxRecDepth 100000
set_option linter.unusedSimpArgs false
set_option linter.unusedVariables false
namespace Go.Proofs.YtcnbopgbmimkcaaGreat
open Go Go.Fm Go.Proofs
/-- From 0 to n - 1. -/
def wth (a n : Int) : Int := if a.tmod n < 0 then a.tmod n + n else a.tmod n
theorem tmod_lt {a n : Int} (h : 0 < n) : a.tmod n < n := by
  have h1 := Int.tmod_lt_of_pos a h
  exact h1
theorem tmod_gt {a n : Int} (h : 0 < n) : -n < a.tmod n := by
  have h1 := Int.lt_tmod_of_pos a h
  exact h1
theorem wth_nn {a n : Int} (h : 0 < n) : 0 ≤ wth a n := by
  have := tmod_gt (a := a) h
  unfold wth
  split <;> omega
theorem wth_lt {a n : Int} (h : 0 < n) : wth a n < n := by
  have := tmod_lt (a := a) h
  unfold wth
  split <;> omega
theorem within6_eq (a n : Int) (h : 0 < n) (hn : n < 4611686018427387904) : call T F_hyphenlaw6_within [.int .i64 a, .int .i64 n] = some (.int .i64 (wth a n), []) := by
  have h1 := tmod_lt (a := a) h
  have h2 := tmod_gt (a := a) h
  have h3 : n ≠ 0 := by omega
  rw [call_code T T_hyphenlaw6_within, enter_args (by simp)]
  unfold wth
  by_cases hc : a.tmod n < 0
  · simp (disch := first | omega | assumption | simp) [h3, hc]
  · simp (disch := first | omega | assumption | simp) [h3, hc]
theorem within5_eq (a n : Int) (h : 0 < n) (hn : n < 4611686018427387904) : call T F_hyphenlaw5_within [.int .i64 a, .int .i64 n] = some (.int .i64 (wth a n), []) := by
  have h1 := tmod_lt (a := a) h
  have h2 := tmod_gt (a := a) h
  have h3 : n ≠ 0 := by omega
  rw [call_code T T_hyphenlaw5_within, enter_args (by simp)]
  unfold wth
  by_cases hc : a.tmod n < 0
  · simp (disch := first | omega | assumption | simp) [h3, hc]
  · simp (disch := first | omega | assumption | simp) [h3, hc]
/-- A slice of numbers at rest; of none nil. -/
def slI : List Int → V
  | [] => .nilsl
  | l@(_ :: _) => ints l
theorem slI_pos {l : List Int} (h : 0 < l.length) : slI l = ints l := by cases l with | nil => simp at h | cons a l => rfl
theorem Slc.slI (l : List Int) : Slc (slI l) l := by
  cases l with
  | nil => exact Slc.nil
  | cons a l => exact Slc.ints _
/-- What is being appended to. -/
def Grow (L : Heap) (nx : Nat) (v : V) (l : List Int) : Prop := (v = .nilsl ∧ l = []) ∨ ∃ id, v = .sl id 1 0 l.length ∧ L.get id = some (.row 1 true true (l.map iv)) ∧ id < nx ∧ 0 < l.length
/-! Appending one. -/
def appNil (L : Heap) (nx sz bytes id : Nat) : Option Thing → Option Out
  | some (.row sz' wr true [e]) => if sz' = sz ∧ bytes ≤ room then some (.sl nx sz 0 1, L.put nx (some (.row sz true true [e])), nx + 1, []) else append L nx sz bytes .nilsl (.sl id sz 0 1)
  | _ => append L nx sz bytes .nilsl (.sl id sz 0 1)
@[simp] theorem append_nil1 (L : Heap) (nx sz bytes id : Nat) : append L nx sz bytes .nilsl (.sl id sz 0 1) = appNil L nx sz bytes id (L.get id) := by
  unfold appNil
  split
  · split
    · rename_i h hh
      obtain ⟨rfl, hb⟩ := hh
      simp [append, elemsOf, h, hb, freeze]
    · rfl
  · rfl
@[simp] theorem appNil_row (L : Heap) (nx sz bytes id : Nat) (wr : Bool) (e : List V) (h : bytes ≤ 140737488355328) : appNil L nx sz bytes id (some (.row sz wr true [e])) = some (.sl nx sz 0 1, L.put nx (some (.row sz true true [e])), nx + 1, []) := by
  simp [appNil, room, h]
def appSl (L : Heap) (nx sz bytes a n id : Nat) : Option Thing → Option Thing → Option Out
  | some (.row sz' true true es), some (.row sz'' wr true [e]) => if sz' = sz ∧ sz'' = sz ∧ n = es.length ∧ (n + 1) * bytes ≤ room then some (.sl nx sz 0 (n + 1), (L.put a none).put nx (some (.row sz true true (es ++ [e]))), nx + 1, [a]) else append L nx sz bytes (.sl a sz 0 n) (.sl id sz 0 1)
  | _, _ => append L nx sz bytes (.sl a sz 0 n) (.sl id sz 0 1)
@[simp] theorem append_sl1 (L : Heap) (nx sz bytes a n id : Nat) : append L nx sz bytes (.sl a sz 0 n) (.sl id sz 0 1) = appSl L nx sz bytes a n id (L.get a) (L.get id) := by
  unfold appSl
  split
  · split
    · rename_i h1 h2 hh
      obtain ⟨rfl, rfl, rfl, hb⟩ := hh
      simp [append, elemsOf, h1, h2, hb, freeze]
    · rfl
  · rfl
theorem appSl_row (L : Heap) (nx sz bytes a n id : Nat) (wr : Bool) (es : List (List V)) (e : List V) (h : n = es.length) (hb : (n + 1) * bytes ≤ 140737488355328) : appSl L nx sz bytes a n id (some (.row sz true true es)) (some (.row sz wr true [e])) = some (.sl nx sz 0 (n + 1), (L.put a none).put nx (some (.row sz true true (es ++ [e]))), nx + 1, [a]) := by
  simp [appSl, room, h, h ▸ hb]
@[simp] theorem appSl_rowm {α : Type} (L : Heap) (nx sz bytes a n id : Nat) (wr : Bool) (f : α → List V) (l : List α) (e : List V) (h : n = l.length) (hb : (n + 1) * bytes ≤ 140737488355328) : appSl L nx sz bytes a n id (some (.row sz true true (l.map f))) (some (.row sz wr true [e])) = some (.sl nx sz 0 (n + 1), (L.put a none).put nx (some (.row sz true true (l.map f ++ [e]))), nx + 1, [a]) :=
  appSl_row L nx sz bytes a n id wr _ e (by simpa using h) hb
theorem pick12 (k : Nat) (h : k < 12) : ∃ q : Int, (([[.int .i64 97], [.int .i64 97], [.int .i64 98], [.int .i64 99], [.int .i64 49], [.int .i64 55], [.int .i64 32], [.int .i64 120], [.int .i64 19969], [.int .i64 128512], [.int .i64 45], [.int .i64 50]] : List (List V))[k]?.bind (takeN false 1)) = some (.int .i64 q) := by
  match k, h with
  | 0, _ | 1, _ | 2, _ | 3, _ | 4, _ | 5, _ | 6, _ | 7, _ | 8, _ | 9, _ | 10, _ | 11, _ => exact ⟨_, rfl⟩
def picks : List Int := [97, 97, 98, 99, 49, 55, 32, 120, 19969, 128512, 45, 50]
theorem Text_loop {v : V} {ns : List Int} (hv : Slc v ns) (most : Nat) (hm : most < 100) : ∀ (k i : Nat) (env : Tr V) (L : Heap) (nx : Nat) (w : V) (l : List Int), k = most - i → i ≤ most → l.length = i → Grow L nx w l →
    Fm.look env 0 = v → Fm.look env 1 = .int .i64 (most : Int) → Fm.look env 5 = w → Fm.look env 6 = .int .i64 (i : Int) →
    ∃ sc : List Int, sc.length ≤ most ∧ Fm.run T fi_hyphenlaw6_Text [.inL c_hyphenlaw6_Text_5, .inB 0, .code c_hyphenlaw6_Text_0] ⟨env, L, nx, []⟩ = some (slI sc, []) := by
  intro k
  induction k with
  | zero =>
    intro i env L nx w l hn hi hll hg h0 h1 h5 h6
    have : ¬ ((i : Int) < (most : Int)) := by omega
    have hlen := hv.len
    refine ⟨l, by omega, ?_⟩
    rw [run_inL]
    by_cases hc : (i : Int) < (ns.length : Int)
    · rcases hg with ⟨rfl, rfl⟩ | ⟨id, rfl, hL, hid, hp⟩
      · simp (disch := first | omega | assumption | simp) [h0, h1, h5, h6, this, hlen, hc, slI]
      · simp (disch := first | omega | assumption | simp) [h0, h1, h5, h6, this, hlen, hc, hL, slI_pos hp]
    · rcases hg with ⟨rfl, rfl⟩ | ⟨id, rfl, hL, hid, hp⟩
      · simp (disch := first | omega | assumption | simp) [h0, h1, h5, h6, this, hlen, hc, slI]
      · simp (disch := first | omega | assumption | simp) [h0, h1, h5, h6, this, hlen, hc, hL, slI_pos hp]
  | succ k ih =>
    intro i env L nx w l hn hi hll hg h0 h1 h5 h6
    have hlt : (i : Int) < (most : Int) := by omega
    have hlen := hv.len
    by_cases hc : (i : Int) < (ns.length : Int)
    · have hil : i < ns.length := by omega
      have hns : ns[i]? = some ns[i] := List.getElem?_eq_getElem hil
      have had := hv.adr .i64 (i : Int) (by omega) hc
      simp [hns] at had
      have hw := within6_eq ns[i] 12 (by omega) (by omega)
      have hw0 := wth_nn (a := ns[i]) (n := 12) (by omega)
      have hw1 := wth_lt (a := ns[i]) (n := 12) (by omega)
      rw [run_inL]
      rcases hg with ⟨rfl, rfl⟩ | ⟨id, rfl, hL, hid, hp⟩
      · simp (disch := first | omega | assumption | simp) [h0, h1, h5, h6, hlt, hlen, hc, had, hw]
        obtain ⟨q, hq⟩ := pick12 (wth ns[i] 12).toNat (by omega)
        rw [hq]
        simp (disch := first | omega | assumption | simp) [h0, h1, h5, h6]
        exact ih (i + 1) _ _ _ (.sl (nx + 1 + 1) 1 0 1) [q] (by omega) (by omega) (by simp at hll ⊢; omega) (.inr ⟨nx + 1 + 1, rfl, by simp [iv], by omega, by simp⟩) (by simp [h0]) (by simp [h1]) (by simp) (by simp)
      · simp (disch := first | omega | assumption | simp) [h0, h1, h5, h6, hlt, hlen, hc, hL, had, hw]
        obtain ⟨q, hq⟩ := pick12 (wth ns[i] 12).toNat (by omega)
        rw [hq]
        simp (disch := first | omega | assumption | simp) [h0, h1, h5, h6, hL]
        exact ih (i + 1) _ _ _ (.sl (nx + 1 + 1) 1 0 (l.length + 1)) (l ++ [q]) (by omega) (by omega) (by simp; omega) (.inr ⟨nx + 1 + 1, by simp, by simp [iv], by omega, by simp⟩) (by simp [h0]) (by simp [h1]) (by simp) (by simp)
    · refine ⟨l, by omega, ?_⟩
      rw [run_inL]
      rcases hg with ⟨rfl, rfl⟩ | ⟨id, rfl, hL, hid, hp⟩
      · simp (disch := first | omega | assumption | simp) [h0, h1, h5, h6, hlt, hlen, hc, slI]
      · simp (disch := first | omega | assumption | simp) [h0, h1, h5, h6, hlt, hlen, hc, hL, slI_pos hp]
theorem Text_eq {v : V} {ns : List Int} (hv : Slc v ns) (most : Nat) (hm : most < 100) : ∃ sc : List Int, sc.length ≤ most ∧ call T F_hyphenlaw6_Text [v, .int .i64 (most : Int)] = some (slI sc, []) := by
  rw [call_code T T_hyphenlaw6_Text, enter_args (by simp [hv.pl, hv.pl'])]
  simp (disch := first | omega | assumption | simp)
  exact Text_loop hv most hm most 0 _ _ _ _ [] (by omega) (by omega) rfl (.inl ⟨rfl, rfl⟩) (by simp) (by simp) (by simp) (by simp)
end Go.Proofs.YtcnbopgbmimkcaaGreat
end

section
set_option autoImplicit false
set_option maxRecDepth 100000
set_option linter.unusedSimpArgs false
set_option linter.unusedVariables false
namespace Go.Proofs.YtcnbopgbmimkcaaGreat
open Go Go.Fm Go.Proofs
/-! Two slices that are the same. -/
theorem Ints_loop {va vb : V} {a b : List Int} (ha : Slc va a) (hb : Slc vb b) (hab : a.length = b.length) (hl : a.length < 1000000) : ∀ (k i : Nat) (env : Tr V) (L : Heap) (nx : Nat), k = a.length - i → i ≤ a.length → a.take i = b.take i →
    Fm.look env 0 = va → Fm.look env 1 = vb → Fm.look env 5 = .int .i64 (i : Int) →
    Fm.run T fi_hyphenref1_Ints [.inL c_hyphenref1_Ints_7, .inB 0, .code c_hyphenref1_Ints_0] ⟨env, L, nx, []⟩ = some (.bool (a == b), []) := by
  have hlen := ha.len
  intro k
  induction k with
  | zero =>
    intro i env L nx hn hi ht h0 h1 h5
    have : ¬ ((i : Int) < (a.length : Int)) := by omega
    have hab' : a = b := by rwa [List.take_of_length_le (by omega), List.take_of_length_le (by omega)] at ht
    have hbe : (a == b) = true := by simpa using hab'
    rw [run_inL]
    simp (disch := first | omega | assumption | simp) [h0, h1, h5, hlen, this, hbe]
  | succ k ih =>
    intro i env L nx hn hi ht h0 h1 h5
    have hlt : (i : Int) < (a.length : Int) := by omega
    have ga : a[i]? = some a[i] := List.getElem?_eq_getElem (by omega)
    have gb : b[i]? = some b[i] := List.getElem?_eq_getElem (by omega)
    have hada := ha.adr .i64 (i : Int) (by omega) hlt
    have hadb := hb.adr .i64 (i : Int) (by omega) (by omega)
    simp [ga] at hada
    simp [gb] at hadb
    rw [run_inL]
    by_cases hs : a[i] = b[i]
    · simp (disch := first | omega | assumption | simp) [h0, h1, h5, hlen, hlt, hada, hadb, hs]
      exact ih (i + 1) _ _ _ (by omega) (by omega) (by rw [List.take_succ_eq_append_getElem (by omega), List.take_succ_eq_append_getElem (by omega), ht, hs]) (by simp [h0]) (by simp [h1]) (by simp)
    · have hbe : (a == b) = false := by
        apply Bool.eq_false_iff.2
        intro h
        have : a = b := by simpa using h
        subst this
        exact hs rfl
      simp (disch := first | omega | assumption | simp) [h0, h1, h5, hlen, hlt, hada, hadb, hs, hbe]
theorem Ints_eq {va vb : V} {a b : List Int} (ha : Slc va a) (hb : Slc vb b) (hl : a.length < 1000000) : call T F_hyphenref1_Ints [va, vb] = some (.bool (a == b), []) := by
  have hla := ha.len
  have hlb := hb.len
  rw [call_code T T_hyphenref1_Ints, enter_args (by simp [ha.pl, hb.pl, ha.pl', hb.pl'])]
  by_cases hab : a.length = b.length
  · have : ((a.length : Int) != (b.length : Int)) = false := by simp [hab]
    simp (disch := first | omega | assumption | simp) [hla, hlb, this]
    exact Ints_loop ha hb hab hl a.length 0 _ _ _ (by omega) (by omega) rfl (by simp) (by simp) (by simp)
  · have : ((a.length : Int) != (b.length : Int)) = true := by simp; omega
    have hbe : (a == b) = false := by
      apply Bool.eq_false_iff.2
      intro h
      have : a = b := by simpa using h
      exact hab (by rw [this])
    simp (disch := first | omega | assumption | simp) [hla, hlb, this, hbe]
/-! Raw patterns. -/
inductive Rw where
  | nul (k n : Int)
  | mk (k n : Int) (l : List Rw)
mutual
def Rw.cells : Rw → List V
  | .nul k n => [.int .i64 k, .int .i64 n, .nilsl]
  | .mk k n l => [.int .i64 k, .int .i64 n, .arr .fresh 3 (Rw.cellsL l)]
def Rw.cellsL : List Rw → List (List V)
  | [] => []
  | r :: l => r.cells :: Rw.cellsL l
end
theorem Rw.cellsL_eq : ∀ l : List Rw, Rw.cellsL l = l.map Rw.cells
  | [] => by simp [Rw.cellsL]
  | r :: l => by simp [Rw.cellsL, Rw.cellsL_eq l]
def Rw.parts : Rw → List Rw
  | .nul _ _ => []
  | .mk _ _ l => l
def Rw.K : Rw → Int
  | .nul k _ => k
  | .mk k _ _ => k
def Rw.N : Rw → Int
  | .nul _ n => n
  | .mk _ n _ => n
/-- A slice of raw ones. -/
structure Slr (v : V) (l : List Rw) : Prop where
  len : lenV v = some (.int .i64 (l.length : Int))
  adr : ∀ (k : IntKind) (n : Int), 0 ≤ n → n < l.length → iaddrV 3 v (.int k n) = some (.ro .fresh ((l[n.toNat]?.map Rw.cells).getD []))
  pl : plain1 v = true
  pl' : plain v = true
  cl : isCell v = true
  no : noOld v = true
  cells : v.cells = [v]
mutual
theorem Rw.noOld : ∀ r : Rw, noOldL r.cells = true
  | .nul k n => by simp [Rw.cells]
  | .mk k n l => by simp [Rw.cells, Rw.noOldL' l]
theorem Rw.noOldL' : ∀ l : List Rw, noOldLL (Rw.cellsL l) = true
  | [] => by simp [Rw.cellsL]
  | r :: l => by simp [Rw.cellsL, Rw.noOld r, Rw.noOldL' l]
end
theorem Slr.nil : Slr .nilsl [] := ⟨rfl, fun k n h0 h1 => by simp at h1; omega, rfl, rfl, rfl, rfl, rfl⟩
theorem Slr.arr (l : List Rw) : Slr (.arr .fresh 3 (Rw.cellsL l)) l := ⟨by simp [Rw.cellsL_eq], fun k n h0 h1 => by simp (disch := first | omega | assumption) [Rw.cellsL_eq], rfl, rfl, rfl, by simp [Rw.noOldL'], rfl⟩
theorem Rw.shape (r : Rw) : ∃ v, Slr v r.parts ∧ r.cells = [.int .i64 r.K, .int .i64 r.N, v] := by
  cases r with
  | nul k n => exact ⟨_, Slr.nil, by simp [Rw.cells, Rw.K, Rw.N]⟩
  | mk k n l => exact ⟨_, Slr.arr l, by simp [Rw.cells, Rw.K, Rw.N]⟩
end Go.Proofs.YtcnbopgbmimkcaaGreat
end

section
set_option autoImplicit false
set_option maxRecDepth 100000
set_option linter.unusedSimpArgs false
set_option linter.unusedVariables false
namespace Go.Proofs.YtcnbopgbmimkcaaGreat
open Go Go.Fm Go.Proofs
/-! Few. -/
theorem size_deep {v : V} {l : List Rw} (hv : Slr v l) (d : Nat) (h : 5 < d) (h' : d < 100) : call T F_hyphenlaw5_size [v, .int .i64 (d : Int)] = some (.int .i64 1000, []) := by
  have : (d : Int) > 5 := by omega
  rw [call_code T T_hyphenlaw5_size, enter_args (by simp [hv.pl, hv.pl'])]
  simp (disch := first | omega | assumption | simp) [this]
theorem size_loop {v : V} {l : List Rw} (hv : Slr v l) (d : Nat) (hd : d ≤ 5) (B : Int) (hB : 0 ≤ B) (hB' : B < 10000)
    (hs : ∀ (v : V) (l : List Rw), Slr v l → ∃ m : Int, 0 ≤ m ∧ m ≤ B ∧ call T F_hyphenlaw5_size [v, .int .i64 ((d : Int) + 1)] = some (.int .i64 m, [])) : ∀ (k : Nat) (i : Nat) (acc : Int) (env : Tr V) (L : Heap) (nx : Nat), k = 31 - acc.toNat → 0 ≤ acc → acc ≤ 31 + B → (i : Int) ≤ acc →
    Fm.look env 0 = v → Fm.look env 1 = .int .i64 (d : Int) → Fm.look env 5 = .int .i64 acc → Fm.look env 6 = .int .i64 (i : Int) →
    ∃ m : Int, 0 ≤ m ∧ m ≤ 31 + B ∧ Fm.run T fi_hyphenlaw5_size [.inL c_hyphenlaw5_size_5, .inB 0, .code c_hyphenlaw5_size_0] ⟨env, L, nx, []⟩ = some (.int .i64 m, []) := by
  have hlen := hv.len
  intro k
  induction k using Nat.strongRecOn with
  | _ k ih =>
    intro i acc env L nx hk h0a hac hia h0 h1 h5 h6
    by_cases hc : (i : Int) < (l.length : Int)
    · by_cases h30 : acc ≤ 30
      · have hil : i < l.length := by omega
        obtain ⟨w, hw, hcells⟩ := Rw.shape l[i]
        have gl : l[i]? = some l[i] := List.getElem?_eq_getElem hil
        have had := hv.adr .i64 (i : Int) (by omega) hc
        simp [gl, hcells] at had
        obtain ⟨m, hm0, hm1, hm⟩ := hs w _ hw
        have hwp := hw.pl'
        rw [run_inL]
        simp (disch := first | omega | assumption | simp) [h0, h1, h5, h6, hlen, hc, h30, had, hm]
        exact ih (31 - (acc + 1 + m).toNat) (by omega) (i + 1) (acc + 1 + m) _ _ _ rfl (by omega) (by omega) (by omega) (by simp [h0]) (by simp [h1]) (by simp) (by simp)
      · refine ⟨acc, h0a, hac, ?_⟩
        rw [run_inL]
        simp (disch := first | omega | assumption | simp) [h0, h1, h5, h6, hlen, hc, h30]
    · refine ⟨acc, h0a, hac, ?_⟩
      rw [run_inL]
      simp (disch := first | omega | assumption | simp) [h0, h1, h5, h6, hlen, hc]
theorem size_eq : ∀ (e : Nat) (d : Nat), d + e = 6 → ∀ {v : V} {l : List Rw}, Slr v l → ∃ m : Int, 0 ≤ m ∧ m ≤ 1000 + 31 * e ∧ call T F_hyphenlaw5_size [v, .int .i64 (d : Int)] = some (.int .i64 m, [])
  | 0, d, h, v, l, hv => ⟨1000, by omega, by omega, size_deep hv d (by omega) (by omega)⟩
  | e + 1, d, h, v, l, hv => by
    have hs : ∀ (v : V) (l : List Rw), Slr v l → ∃ m : Int, 0 ≤ m ∧ m ≤ 1000 + 31 * e ∧ call T F_hyphenlaw5_size [v, .int .i64 ((d : Int) + 1)] = some (.int .i64 m, []) := fun v l hv => by
      have := size_eq e (d + 1) (by omega) hv
      simpa using this
    have h5 : ¬ (d : Int) > 5 := by omega
    rw [call_code T T_hyphenlaw5_size, enter_args (by simp [hv.pl, hv.pl'])]
    simp (disch := first | omega | assumption | simp) [h5]
    exact Exists.imp (fun m h => ⟨h.1, by have := h.2.1; omega, h.2.2⟩) (size_loop hv d (by omega) (1000 + 31 * e) (by omega) (by omega) hs 31 0 0 _ _ _ (by simp) (by omega) (by omega) (by omega) (by simp) (by simp) (by simp) (by simp))
theorem Few_eq {v : V} {l : List Rw} (hv : Slr v l) : ∃ b : Bool, call T F_hyphenlaw5_Few [v] = some (.bool b, []) := by
  obtain ⟨m, hm0, hm1, hm⟩ := size_eq 6 0 rfl hv
  have hpl' := hv.pl'
  rw [call_code T T_hyphenlaw5_Few, enter_args (by simp [hv.pl, hv.pl'])]
  exact ⟨decide (m ≤ 30), by simp (disch := first | omega | assumption | simp) [show call T F_hyphenlaw5_size [v, .int .i64 0] = _ from hm]⟩
/-! Make. -/
theorem names_eq : call T F_hyphenlaw5_names [] = some (.arr .fresh 1 [[.str [97]], [.str [118]], [.str [100]], [.str [115]], [.str [119, 49]], [.str [111, 116, 104, 101, 114]]], []) := by
  rw [call_code T T_hyphenlaw5_names, enter_args (by simp)]
  simp (disch := first | omega | assumption | simp)
theorem name4 (k : Nat) (h : k < 4) : ∃ q : List UInt8, q ∈ setsN ∧ ([[.str [97]], [.str [118]], [.str [100]], [.str [115]], [.str [119, 49]], [.str [111, 116, 104, 101, 114]]] : List (List V))[k]? = some [.str q] := by
  match k, h with
  | 0, _ | 1, _ | 2, _ | 3, _ => exact ⟨_, by simp [setsN], rfl⟩
theorem name_at (n : Int) (h0 : 0 ≤ n) (h1 : n < 4) : ∃ q : List UInt8, q ∈ setsN ∧ iaddrV 1 (.arr .fresh 1 [[.str [97]], [.str [118]], [.str [100]], [.str [115]], [.str [119, 49]], [.str [111, 116, 104, 101, 114]]]) (.int .i64 n) = some (.ro .fresh [.str q]) := by
  obtain ⟨q, hq, hq2⟩ := name4 n.toNat (by omega)
  refine ⟨q, hq, ?_⟩
  rw [iaddrV_arr _ _ _ _ h0 (by simp; omega), hq2]
  rfl
def Made (right : Bool) (r : Rw) : Prop := ∃ x : Px, x.ok = true ∧ call T F_hyphenlaw5_Raw_Make [.agg r.cells, .bool right] = some (.agg x.cells, [])
theorem rpart_eq (right : Bool) (r : Rw) (hr : ∀ y ∈ r.parts, Made right y) (i : Nat) (hi : i < 10) : ∃ x : Px, x.ok = true ∧ call T F_hyphenlaw5_Raw_part [.agg r.cells, .int .i64 (i : Int), .bool right] = some (.agg x.cells, []) := by
  obtain ⟨w, hw, hcells⟩ := Rw.shape r
  have hlen := hw.len
  have hpl := hw.pl
  have hcl := hw.cl
  have hno := hw.no
  have hpl' := hw.pl'
  by_cases hc : (i : Int) < (r.parts.length : Int)
  · have hil : i < r.parts.length := by omega
    obtain ⟨x, hx, hm⟩ := hr r.parts[i] (List.getElem_mem hil)
    have gl : r.parts[i]? = some r.parts[i] := List.getElem?_eq_getElem hil
    have had := hw.adr .i64 (i : Int) (by omega) hc
    simp [gl] at had
    obtain ⟨w2, hw2, hcells2⟩ := Rw.shape r.parts[i]
    have hno2 := hw2.no
    have hpl2 := hw2.pl
    have hpl2' := hw2.pl'
    have hp2 : plain (.agg [.int .i64 r.parts[i].K, .int .i64 r.parts[i].N, w2]) = true := by simp [hpl2, hpl2']
    rw [hcells2] at had hm
    refine ⟨x, hx, ?_⟩
    rw [hcells, call_code T T_hyphenlaw5_Raw_part, enter_args (by simp [hw.pl, hw.pl'])]
    simp (disch := first | omega | assumption | simp) [hlen, hpl, hcl, hno, hc, had, hm, hno2, hpl2, finQ_agg]
  · have hw4 := within5_eq (IntKind.i64.wrap (r.N + i)) 4 (by omega) (by omega)
    have h40 := wth_nn (a := IntKind.i64.wrap (r.N + i)) (n := 4) (by omega)
    have h41 := wth_lt (a := IntKind.i64.wrap (r.N + i)) (n := 4) (by omega)
    obtain ⟨q, hq, hq2⟩ := name_at (wth (IntKind.i64.wrap (r.N + i)) 4) (by omega) (by omega)
    refine ⟨.set q, by simpa [Px.ok] using hq, ?_⟩
    rw [hcells, call_code T T_hyphenlaw5_Raw_part, enter_args (by simp [hw.pl, hw.pl'])]
    simp (disch := first | omega | assumption | simp) [hlen, hpl, hcl, hno, hc, names_eq, hw4, hq2, Px.cells]
end Go.Proofs.YtcnbopgbmimkcaaGreat
end

section
set_option autoImplicit false
set_option maxRecDepth 100000
set_option linter.unusedSimpArgs false
set_option linter.unusedVariables false
namespace Go.Proofs.YtcnbopgbmimkcaaGreat
open Go Go.Fm Go.Proofs
theorem px_hasRef (x : Px) : x.cells.any hasRef = false := by cases x <;> rfl
def storeBx (L : Heap) (nx n id : Nat) (cs : List V) : Option Thing → Option Out
  | some (.box b) => if cs.length = n ∧ cs.all isCell = true ∧ b.length = n then some (.undef, L.put id (some (.box cs)), nx, [id]) else Fm.store L nx n (.pt id 0 0) (.agg cs)
  | _ => Fm.store L nx n (.pt id 0 0) (.agg cs)
theorem putL_all (b cs : List V) (h : b.length = cs.length) : putL b 0 cs = cs := by simp [putL, h]
theorem store_bx (L : Heap) (nx n id : Nat) (cs : List V) : Fm.store L nx n (.pt id 0 0) (.agg cs) = storeBx L nx n id cs (L.get id) := by
  unfold storeBx
  split
  · split
    · rename_i b hg hh
      obtain ⟨h1, h2, h3⟩ := hh
      have e : (V.agg cs).cells = cs := rfl
      simp only [Fm.store, hg, e, h1, h2]
      simp [h3, putL_all b cs (by omega)]
    · rfl
  · rfl
theorem storeBx_box (L : Heap) (nx n id : Nat) (cs b : List V) (h1 : cs.length = n) (h2 : cs.all isCell = true) (h3 : b.length = n) : storeBx L nx n id cs (some (.box b)) = some (.undef, L.put id (some (.box cs)), nx, [id]) := by simp only [storeBx, h1, h2, h3, and_self, if_true]
theorem resOne_agg {L : Heap} {cs cs' : List V} (h : mapO (dr L.get .fresh 5) cs = some cs') : resOne (ownV L false (.agg cs)) = some (.agg cs', []) := by
  have : ownV L false (.agg cs) = some (.agg cs', [], refs L.get deep (.agg cs)) := by
    have hd : dr L.get .fresh deep (.agg cs) = some (.agg cs') := by
      show (mapO (dr L.get .fresh 5) cs).map V.agg = _
      rw [h]
      rfl
    simp only [ownV, Bool.false_eq_true, if_false, hd, Option.map_some]
  rw [this]
  rfl
theorem dr_int' (g : HeapF) (fl : Fl) (d : Nat) (k : IntKind) (n : Int) : dr g fl (d + 1) (.int k n) = some (.int k n) := rfl
theorem dr_str' (g : HeapF) (fl : Fl) (d : Nat) (s : List UInt8) : dr g fl (d + 1) (.str s) = some (.str s) := rfl
theorem dr_sle {L : Heap} {fl : Fl} {d id sz len : Nat} {es : List (List V)} (h : L.get id = some (.row sz true true es)) (hl : len = es.length) : dr L.get fl (d + 1) (.sl id sz 0 len) = some (.arr fl sz es) := by
  rw [dr_sl_row h hl]
  rfl
theorem row6 {L : Heap} {k lo hi w : Int} {nm : List UInt8} {id n : Nat} {es : List (List V)} (h : L.get id = some (.row 6 true true es)) (hl : n = es.length) : mapO (dr L.get .fresh 5) [.int .i64 k, .int .i64 lo, .int .i64 hi, .int .i64 w, .str nm, .sl id 6 0 n] = some (rex k lo hi w nm (.arr .fresh 6 es)) := by
  simp only [mapO, dr_int', dr_str', dr_sle h hl, Option.bind_some]
set_option maxHeartbeats 1000000
theorem make_step (right : Bool) (r : Rw) (hr : ∀ y ∈ r.parts, Made right y) : Made right r := by
  obtain ⟨w, hw, hcells⟩ := Rw.shape r
  have hpl := hw.pl
  have hpl' := hw.pl'
  have hcl := hw.cl
  have hno := hw.no
  obtain ⟨a, ha, hpa⟩ := rpart_eq right r hr 0 (by omega)
  obtain ⟨b, hb, hpb⟩ := rpart_eq right r hr 1 (by omega)
  rw [hcells] at hpa hpb
  have hp : plain (.agg [.int .i64 r.K, .int .i64 r.N, w]) = true := by simp [hpl, hpl']
  have e0 : ((0 : Nat) : Int) = 0 := rfl
  have e1 : ((1 : Nat) : Int) = 1 := rfl
  rw [e0] at hpa
  rw [e1] at hpb
  have hk := within5_eq r.K 20 (by omega) (by omega)
  have hk0 := wth_nn (a := r.K) (n := 20) (by omega)
  have hk1 := wth_lt (a := r.K) (n := 20) (by omega)
  have hn4 := within5_eq r.N 4 (by omega) (by omega)
  have hn40 := wth_nn (a := r.N) (n := 4) (by omega)
  have hn41 := wth_lt (a := r.N) (n := 4) (by omega)
  have hn3 := within5_eq r.N 3 (by omega) (by omega)
  have hn30 := wth_nn (a := r.N) (n := 3) (by omega)
  have hn31 := wth_lt (a := r.N) (n := 3) (by omega)
  have hd3 := within5_eq (IntKind.i64.wrap (r.N.tdiv 3)) 3 (by omega) (by omega)
  have hd30 := wth_nn (a := (IntKind.i64.wrap (r.N.tdiv 3))) (n := 3) (by omega)
  have hd31 := wth_lt (a := (IntKind.i64.wrap (r.N.tdiv 3))) (n := 3) (by omega)
  have hn7 := within5_eq r.N 7 (by omega) (by omega)
  have hn70 := wth_nn (a := r.N) (n := 7) (by omega)
  have hn71 := wth_lt (a := r.N) (n := 7) (by omega)
  obtain ⟨q, hq, hq2⟩ := name_at (wth r.N 4) (by omega) (by omega)
  unfold Made
  rw [hcells]
  generalize wth r.K 20 = k at *
  by_cases c1 : k < 1
  · refine ⟨.none, rfl, ?_⟩
    rw [call_code T T_hyphenlaw5_Raw_Make, enter_args (by simp [hp, hpl, hpl'])]
    simp (disch := first | omega | assumption | simp) [-List.all_eq_true, -List.any_eq_true, -List.any_eq_false, px_hasRef, store_bx, storeBx_box, hpl, hcl, hno, hk, c1, finQ_agg, Px.cells]
  by_cases c6 : k < 6
  · refine ⟨.set q, by simpa [Px.ok] using hq, ?_⟩
    rw [call_code T T_hyphenlaw5_Raw_Make, enter_args (by simp [hp, hpl, hpl'])]
    simp (disch := first | omega | assumption | simp) [-List.all_eq_true, -List.any_eq_true, -List.any_eq_false, px_hasRef, store_bx, storeBx_box, hpl, hcl, hno, hk, c1, c6, hn4, names_eq, hq2, finQ_agg, Px.cells]
  by_cases c8 : k < 8
  · refine ⟨.any, rfl, ?_⟩
    rw [call_code T T_hyphenlaw5_Raw_Make, enter_args (by simp [hp, hpl, hpl'])]
    simp (disch := first | omega | assumption | simp) [-List.all_eq_true, -List.any_eq_true, -List.any_eq_false, px_hasRef, store_bx, storeBx_box, hpl, hcl, hno, hk, c1, c6, c8, finQ_agg, Px.cells]
  by_cases c13 : k < 13
  · refine ⟨.cat a b, by simp [Px.ok, ha, hb], ?_⟩
    rw [call_code T T_hyphenlaw5_Raw_Make, enter_args (by simp [hp, hpl, hpl'])]
    simp (disch := first | omega | assumption | simp) [-List.all_eq_true, -List.any_eq_true, -List.any_eq_false, px_hasRef, store_bx, storeBx_box, hpl, hcl, hno, hk, c1, c6, c8, c13, hpa, hpb, finQ_agg, Px.cells]
    exact resOne_agg (row6 (by simp) rfl)
  by_cases c15 : k < 15
  · refine ⟨.alt a b, by simp [Px.ok, ha, hb], ?_⟩
    rw [call_code T T_hyphenlaw5_Raw_Make, enter_args (by simp [hp, hpl, hpl'])]
    simp (disch := first | omega | assumption | simp) [-List.all_eq_true, -List.any_eq_true, -List.any_eq_false, px_hasRef, store_bx, storeBx_box, hpl, hcl, hno, hk, c1, c6, c8, c13, c15, hpa, hpb, finQ_agg, Px.cells]
    exact resOne_agg (row6 (by simp) rfl)
  by_cases c16 : k < 16
  · refine ⟨.star a, by simp [Px.ok, ha], ?_⟩
    rw [call_code T T_hyphenlaw5_Raw_Make, enter_args (by simp [hp, hpl, hpl'])]
    simp (disch := first | omega | assumption | simp) [-List.all_eq_true, -List.any_eq_true, -List.any_eq_false, px_hasRef, store_bx, storeBx_box, hpl, hcl, hno, hk, c1, c6, c8, c13, c15, c16, hpa, finQ_agg, Px.cells]
    exact resOne_agg (row6 (by simp) rfl)
  by_cases c18 : k < 18
  · refine ⟨.times a (wth r.N 3).toNat ((wth r.N 3).toNat + (wth (IntKind.i64.wrap (r.N.tdiv 3)) 3).toNat), by simp [Px.ok, ha]; omega, ?_⟩
    have e3 : ((wth r.N 3).toNat : Int) = wth r.N 3 := by omega
    have e4 : (((wth r.N 3).toNat + (wth (IntKind.i64.wrap (r.N.tdiv 3)) 3).toNat : Nat) : Int) = wth r.N 3 + wth (IntKind.i64.wrap (r.N.tdiv 3)) 3 := by omega
    rw [call_code T T_hyphenlaw5_Raw_Make, enter_args (by simp [hp, hpl, hpl'])]
    simp (disch := first | omega | assumption | simp) [-List.all_eq_true, -List.any_eq_true, -List.any_eq_false, px_hasRef, store_bx, storeBx_box, hpl, hcl, hno, hk, c1, c6, c8, c13, c15, c16, c18, hpa, hn3, hd3, finQ_agg, Px.cells, e3, show ((wth (IntKind.i64.wrap (r.N.tdiv 3)) 3).toNat : Int) = wth (IntKind.i64.wrap (r.N.tdiv 3)) 3 by omega, -Int.ofNat_toNat]
    exact resOne_agg (row6 (by simp) rfl)
  cases right with
  | true =>
    refine ⟨a, ha, ?_⟩
    rw [call_code T T_hyphenlaw5_Raw_Make, enter_args (by simp [hp, hpl, hpl'])]
    simp (disch := first | omega | assumption | simp) [-List.all_eq_true, -List.any_eq_true, -List.any_eq_false, px_hasRef, store_bx, storeBx_box, hpl, hcl, hno, hk, c1, c6, c8, c13, c15, c16, c18, hpa, finQ_agg, Px.cells]
  | false =>
    refine ⟨.weight a (wth r.N 7).toNat, by simp [Px.ok, ha]; omega, ?_⟩
    rw [call_code T T_hyphenlaw5_Raw_Make, enter_args (by simp [hp, hpl, hpl'])]
    simp (disch := first | omega | assumption | simp) [-List.all_eq_true, -List.any_eq_true, -List.any_eq_false, px_hasRef, store_bx, storeBx_box, hpl, hcl, hno, hk, c1, c6, c8, c13, c15, c16, c18, hpa, hn7, finQ_agg, Px.cells, show ((wth r.N 7).toNat : Int) = wth r.N 7 by omega, -Int.ofNat_toNat]
    exact resOne_agg (row6 (by simp) rfl)
end Go.Proofs.YtcnbopgbmimkcaaGreat
end

section
set_option autoImplicit false
set_option maxRecDepth 100000
set_option linter.unusedSimpArgs false
set_option linter.unusedVariables false
namespace Go.Proofs.YtcnbopgbmimkcaaGreat
open Go Go.Fm Go.Proofs
theorem outC_one (env : Tr V) (d : Option Nat) (bx : List Nat) (c : Opd) (v : V) (L : Heap) (nx id : Nat) : outC env d bx [c] (some (v, L, nx, [id])) = if addrOk (opd (Fm.look env) c) [id] = true then some ⟨setDst env d v, L, nx, bx⟩ else none := by simp [outC]
theorem addrOk_pt (id idx sub id' : Nat) (h : id ≠ id') : addrOk (.pt id idx sub) [id'] = true := by simp [addrOk, h]
mutual
theorem make_eq (right : Bool) : ∀ r : Rw, Made right r
  | .nul k n => make_step right _ (by simp [Rw.parts])
  | .mk k n l => make_step right _ (make_eqL right l)
theorem make_eqL (right : Bool) : ∀ l : List Rw, ∀ y ∈ l, Made right y
  | [], y, h => by simp at h
  | r :: l, y, h => by
    rcases List.mem_cons.1 h with h | h
    · exact h ▸ make_eq right r
    · exact make_eqL right l y h
end
theorem sides_eq {v : V} {l : List Rw} (hv : Slr v l) : ∃ x y : Px, x.ok = true ∧ y.ok = true ∧ call T F_hyphenlaw6_sides [v] = some (.tup [.agg x.cells, .agg y.cells], []) := by
  have hlen := hv.len
  have hpl := hv.pl
  have hpl' := hv.pl'
  match l, hv with
  | [], hv =>
    refine ⟨.any, .none, rfl, rfl, ?_⟩
    rw [call_code T T_hyphenlaw6_sides, enter_args (by simp [hpl, hpl'])]
    simp (disch := first | omega | assumption | simp) [-List.all_eq_true, -List.any_eq_true, -List.any_eq_false, hlen, store_bx, storeBx_box, outC_one, addrOk_pt, finQ_agg, resO_two, resV, Px.cells]
  | [a], hv =>
    obtain ⟨x, hx, hm⟩ := make_eq false a
    have h0 := hv.adr .i64 0 (by omega) (by simp)
    obtain ⟨w, hw, hcells⟩ := Rw.shape a
    have hw1 := hw.pl
    have hw2 := hw.pl'
    have hw3 := hw.cl
    have hno := hw.no
    simp [hcells] at h0
    rw [hcells] at hm
    have hp : plain (.agg [.int .i64 a.K, .int .i64 a.N, w]) = true := by simp [hw1, hw2]
    refine ⟨x, .none, hx, rfl, ?_⟩
    rw [call_code T T_hyphenlaw6_sides, enter_args (by simp [hpl, hpl'])]
    simp (disch := first | omega | assumption | simp) [-List.all_eq_true, -List.any_eq_true, -List.any_eq_false, hlen, h0, hm, store_bx, storeBx_box, outC_one, addrOk_pt, finQ_agg, resO_two, resV]
    try simp [Px.cells]
  | a :: b :: l, hv =>
    obtain ⟨x, hx, hm⟩ := make_eq false a
    obtain ⟨y, hy, hm'⟩ := make_eq false b
    have h0 := hv.adr .i64 0 (by omega) (by simp; omega)
    have h1 := hv.adr .i64 1 (by omega) (by simp; omega)
    obtain ⟨w, hw, hcells⟩ := Rw.shape a
    obtain ⟨w', hw', hcells'⟩ := Rw.shape b
    have hw1 := hw.pl
    have hw2 := hw.pl'
    have hw3 := hw.cl
    have hno := hw.no
    have hw1' := hw'.pl
    have hw2' := hw'.pl'
    have hw3' := hw'.cl
    have hno' := hw'.no
    simp [hcells] at h0
    simp [hcells'] at h1
    rw [hcells] at hm
    rw [hcells'] at hm'
    have hp : plain (.agg [.int .i64 a.K, .int .i64 a.N, w]) = true := by simp [hw1, hw2]
    have hp' : plain (.agg [.int .i64 b.K, .int .i64 b.N, w']) = true := by simp [hw1', hw2']
    have l0 : (0 : Int) < (l.length : Int) + 1 + 1 := by omega
    have l1 : (1 : Int) < (l.length : Int) + 1 + 1 := by omega
    refine ⟨x, y, hx, hy, ?_⟩
    simp only [List.length_cons] at hlen
    rw [call_code T T_hyphenlaw6_sides, enter_args (by simp [hpl, hpl'])]
    simp (disch := first | omega | assumption | simp) [-List.all_eq_true, -List.any_eq_true, -List.any_eq_false, hlen, l0, l1, h0, h1, hm, hm', store_bx, storeBx_box, outC_one, addrOk_pt, finQ_agg, resO_two, resV]
end Go.Proofs.YtcnbopgbmimkcaaGreat
end

section
set_option autoImplicit false
set_option maxRecDepth 100000
set_option linter.unusedSimpArgs false
set_option linter.unusedVariables false
namespace Go.Proofs.YtcnbopgbmimkcaaGreat
open Go Go.Fm Go.Proofs
/-- A file of the four sets. -/
abbrev fileV (rs : V) : V := .agg [defsV, rs]
def zerosI (n : Nat) : List Int := List.replicate n 0
theorem zeros_good (n : Nat) : Good n (zerosI n) := ⟨by simp [zerosI], fun x hx => by simp [zerosI] at hx; omega⟩
theorem begin_slI (sc : List Int) : call T F_mean_begin [fileV .nilsl, slI sc] = some (.agg [slI sc, setsM], []) := by
  cases sc with
  | nil => exact begin_nn
  | cons a l => exact begin_na _
theorem Cost_eq (x : Px) (hx : x.ok = true) (sc : List Int) (hl : sc.length < 900000) (k : Nat) (hk : k ≤ sc.length) : call T F_mean_Cost [.agg x.cells, fileV .nilsl, slI sc, .int .i64 (k : Int)] = some (.int .i64 ((x.run sc (zerosI (sc.length + 1)))[k]?.getD 0), []) := by
  have hv := Slc.slI sc
  have hb := begin_slI sc
  have hlen := hv.len
  have hpl := hv.pl
  have hpl' := hv.pl'
  have hcl := hv.cl
  have hno := hv.no
  have hr := run_eq hv hl x hx _ (zeros_good (sc.length + 1))
  have hg := x.run_good sc _ (zeros_good (sc.length + 1))
  have hgl := hg.len
  have hp : plain (fileV .nilsl) = true := rfl
  have hp2 : plain (txt (slI sc) setsM) = true := by simp [hpl]
  have hA : [slI sc, setsM].all plain1 = true := by simp [hpl]
  have hB : noOldL [slI sc, setsM] = true := by rw [noOldL, hno]; rfl
  have hC : [slI sc, setsM].all isCell = true := by simp [hcl]
  have hz : (V.arr .fresh 1 (List.replicate (sc.length + 1) [V.int .i64 0])) = ints (zerosI (sc.length + 1)) := by simp [zerosI, iv]
  generalize slI sc = v at *
  generalize x.run sc (zerosI (sc.length + 1)) = c at *
  have h0 : ¬ ((k : Int) < 0) := by omega
  have h1 : ¬ ((k : Int) > (sc.length : Int)) := by omega
  have h2 : (k : Int) < (c.length : Int) := by omega
  have gc : c[k]? = some (c[k]'(by omega)) := List.getElem?_eq_getElem (by omega)
  rw [call_code T T_mean_Cost, enter_args (by simp [hpl, hpl', hp])]
  simp (disch := first | omega | assumption | simp) [-List.all_eq_true, -List.any_eq_true, -List.any_eq_false, hpl, hcl, hno, hb, hlen, h0, h1, hz, hr, h2, gc, store_bx, storeBx_box, finQ_agg]

end Go.Proofs.YtcnbopgbmimkcaaGreat
end

section
set_option autoImplicit false
set_option maxRecDepth 100000
set_option linter.unusedSimpArgs false
set_option linter.unusedVariables false
namespace Go.Proofs.YtcnbopgbmimkcaaGreat
open Go Go.Fm Go.Proofs
theorem Clone_nil : call T F_slices_Clone_Slint_int [.nilsl] = some (.nilsl, []) := by
  rw [call_code T T_slices_Clone_Slint_int, enter_args (by simp)]
  simp (disch := first | omega | assumption | simp)
/-- The places that there are. -/
def endsL : List Int → Nat → List Int
  | [], _ => []
  | x :: c, i => if x < INF then (i : Int) :: endsL c (i + 1) else endsL c (i + 1)
/-- A slice of numbers that is handed on as one's own; of none nil. -/
def slO : List Int → V
  | [] => .nilsl
  | l@(_ :: _) => intsO l
theorem slO_pos {l : List Int} (h : 0 < l.length) : slO l = intsO l := by cases l with | nil => simp at h | cons a l => rfl
theorem Ends_loop (c : List Int) (hl : c.length < 1000000) : ∀ (k i : Nat) (env : Tr V) (L : Heap) (nx : Nat) (w : V) (l : List Int), k = c.length - i → i ≤ c.length → Grow L nx w l → l.length ≤ i →
    Fm.look env 33 = ints c → Fm.look env 34 = .int .i64 (c.length : Int) → Fm.look env 35 = .int .i64 (i : Int) → Fm.look env 11 = w →
    Fm.run T fi_mean_Ends [.inL c_mean_Ends_8, .inB 0, .code c_mean_Ends_0] ⟨env, L, nx, []⟩ = some (slO (l ++ endsL (c.drop i) i), []) := by
  intro k
  induction k with
  | zero =>
    intro i env L nx w l hn hi hg hli h33 h34 h35 h11
    have : ¬ ((i : Int) < (c.length : Int)) := by omega
    rw [run_inL, List.drop_eq_nil_of_le (by omega)]
    simp only [endsL, List.append_nil]
    rcases hg with ⟨rfl, rfl⟩ | ⟨id, rfl, hL, hid, hp⟩
    · simp (disch := first | omega | assumption | simp) [h33, h34, h35, h11, this, slO, Clone_nil]
    · have hc := Clone_eq l (by omega) hp
      simp (disch := first | omega | assumption | simp) [h33, h34, h35, h11, this, hL, hc, slO_pos hp]
  | succ k ih =>
    intro i env L nx w l hn hi hg hli h33 h34 h35 h11
    have hlt : (i : Int) < (c.length : Int) := by omega
    have hil : i < c.length := by omega
    have gc : c[i]? = some c[i] := List.getElem?_eq_getElem hil
    rw [run_inL, List.drop_eq_getElem_cons hil]
    simp only [endsL]
    by_cases hx : c[i] < INF
    · have hx' : c[i] < 1152921504606846976 := hx
      rw [if_pos hx]
      rcases hg with ⟨rfl, rfl⟩ | ⟨id, rfl, hL, hid, hp⟩
      · simp (disch := first | omega | assumption | simp) [h33, h34, h35, h11, hlt, gc, hx', -List.getElem_cons_drop]
        exact ih (i + 1) _ _ _ (.sl (nx + 1) 1 0 1) [(i : Int)] (by omega) (by omega) (.inr ⟨nx + 1, rfl, by simp [iv], by omega, by simp⟩) (by simp) (by simp [h33]) (by simp [h34]) (by simp) (by simp)
      · simp (disch := first | omega | assumption | simp) [h33, h34, h35, h11, hlt, gc, hx', hL, -List.getElem_cons_drop]
        rw [show l ++ (i : Int) :: endsL (c.drop (i + 1)) (i + 1) = (l ++ [(i : Int)]) ++ endsL (c.drop (i + 1)) (i + 1) by simp]
        exact ih (i + 1) _ _ _ (.sl (nx + 1) 1 0 (l.length + 1)) (l ++ [(i : Int)]) (by omega) (by omega) (.inr ⟨nx + 1, by simp, by simp [iv], by omega, by simp⟩) (by simp; omega) (by simp [h33]) (by simp [h34]) (by simp) (by simp)
    · have hx' : ¬ c[i] < 1152921504606846976 := hx
      rw [if_neg hx]
      simp (disch := first | omega | assumption | simp) [h33, h34, h35, h11, hlt, gc, hx', -List.getElem_cons_drop]
      exact ih (i + 1) _ _ _ w l (by omega) (by omega) hg (by omega) (by simp [h33]) (by simp [h34]) (by simp) (by simp [h11])
def unitI (n k : Nat) : List Int := (List.replicate n INF).set k 0
theorem unit_good (n k : Nat) : Good n (unitI n k) := ⟨by simp [unitI], fun x hx => by
  rcases List.mem_or_eq_of_mem_set hx with h | h
  · rw [(List.mem_replicate.1 h).2]; exact INF_nn
  · omega⟩
theorem storeTh_rep (L : Heap) (nx id n k : Nat) (hk : k < n) : storeTh L nx 1 id k 0 (.int .i64 0) (some (.row 1 true true (List.replicate n (iv INF)))) = some (.undef, L.put id (some (.row 1 true true ((unitI n k).map iv))), nx, [id]) := by
  have g : (List.replicate n (iv INF))[k]? = some (iv INF) := by simp [List.getElem?_replicate, hk]
  simp only [storeTh, g]
  simp [unitI, iv, List.map_set, putL]
theorem Ends_eq (x : Px) (hx : x.ok = true) (sc : List Int) (hl : sc.length < 900000) (k : Nat) (hk : k ≤ sc.length) : call T F_mean_Ends [.agg x.cells, fileV .nilsl, slI sc, .int .i64 (k : Int)] = some (slO (endsL (x.run sc (unitI (sc.length + 1) k)) 0), []) := by
  have hv := Slc.slI sc
  have hb := begin_slI sc
  have hlen := hv.len
  have hpl := hv.pl
  have hpl' := hv.pl'
  have hcl := hv.cl
  have hno := hv.no
  have hr := run_eq hv hl x hx _ (unit_good (sc.length + 1) k)
  have hg := x.run_good sc _ (unit_good (sc.length + 1) k)
  have hgl := hg.len
  have hp : plain (fileV .nilsl) = true := rfl
  have hp2 : plain (txt (slI sc) setsM) = true := by simp [hpl]
  have hA : [slI sc, setsM].all plain1 = true := by simp [hpl]
  have hB : noOldL [slI sc, setsM] = true := by rw [noOldL, hno]; rfl
  have hC : [slI sc, setsM].all isCell = true := by simp [hcl]
  have hnone := none_eq' hv setsM rfl rfl (by omega)
  generalize slI sc = v at *
  generalize hrun : x.run sc (unitI (sc.length + 1) k) = c at *
  have hul : sc.length + 1 = (unitI (sc.length + 1) k).length := by simp [unitI]
  have h0 : ¬ ((k : Int) < 0) := by omega
  have h1 : ¬ ((k : Int) ≥ (sc.length : Int) + 1) := by omega
  have h2 : (k : Int) < (sc.length : Int) + 1 := by omega
  rw [call_code T T_mean_Ends, enter_args (by simp [hpl, hpl', hp])]
  simp (disch := first | omega | assumption | simp) [-List.all_eq_true, -List.any_eq_true, -List.any_eq_false, hpl, hcl, hno, hb, hlen, h0, h1, h2, hnone, hr, storeTh_rep, store_bx, storeBx_box, finQ_agg]
  exact Ends_loop c (by omega) c.length 0 _ _ _ .nilsl [] (by omega) (by omega) (.inl ⟨rfl, rfl⟩) (by simp) (by simp) (by simp) (by simp) (by simp)
end Go.Proofs.YtcnbopgbmimkcaaGreat
end
