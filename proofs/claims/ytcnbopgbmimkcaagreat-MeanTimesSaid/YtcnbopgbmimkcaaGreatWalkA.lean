/- Functions of the program, one by one, in the machine FM; plain laws of what they answer. -/
import Derived.Test.YtcnbopgbmimkcaaGreatFt
import Derived.Test.YtcnbopgbmimkcaaGreatFmE
set_option linter.all false
set_option linter.unusedSimpArgs false
set_option linter.unusedVariables false
set_option linter.unnecessarySimpa false
set_option linter.unusedSectionVars false
section
set_option autoImplicit false
set_option maxRecDepth 100000
set_option linter.unusedSimpArgs false
set_option linter.unusedVariables false
namespace Go.Proofs.YtcnbopgbmimkcaaGreat
open Go Go.Fm Go.Proofs
/-! Costs. -/
def INF : Int := 1152921504606846976
def addI (a b : Int) : Int := min (min a INF + min b INF) INF
def minL (l : List Int) (a : Int) : Int := l.foldl min a

theorem Add_eq (a b : Int) (ha : 0 ≤ a) (hb : 0 ≤ b) : call T F_trop_Add [.int .i64 a, .int .i64 b] = some (.int .i64 (addI a b), []) := by
  rw [call_code T T_trop_Add, enter_args (by simp)]
  simp (disch := first | omega | exact rfl | assumption) [addI, INF]

theorem refAdd_eq (a b : Int) (ha : 0 ≤ a) (hb : 0 ≤ b) (ha' : a ≤ INF) (hb' : b ≤ INF) : call T F_hyphenref1_Add [.int .i64 a, .int .i64 b] = some (.int .i64 (min (a + b) INF), []) := by
  unfold INF at *
  rw [call_code T T_hyphenref1_Add, enter_args (by simp)]
  simp (disch := first | omega | exact rfl | assumption)

theorem Min_loop (l : List Int) : ∀ (n : Nat) (i : Nat) (a : Int) (env : Tr V), n = l.length - i → i ≤ l.length → l.length < 9223372036854775807 → Fm.look env 3 = .int .i64 a → Fm.look env 6 = ints l → Fm.look env 7 = .int .i64 (l.length : Int) → Fm.look env 8 = .int .i64 (i : Int) →
    Fm.run T fi_trop_Min [.inL c_trop_Min_6, .inB 0, .code c_trop_Min_0] ⟨env, .e, 0, []⟩ = some (.int .i64 (minL (l.drop i) a), []) := by
  intro n
  induction n with
  | zero =>
    intro i a env hn hi hl h3 h6 h7 h8
    have : ¬ ((i : Int) < (l.length : Int)) := by omega
    have hd : l.drop i = [] := List.drop_eq_nil_of_le (by omega)
    rw [run_inL]
    simp (disch := first | omega | exact rfl | assumption) [h3, h7, h8, this, hd, minL]
  | succ n ih =>
    intro i a env hn hi hl h3 h6 h7 h8
    have hlt : (i : Int) < (l.length : Int) := by omega
    have hd : l.drop i = l[i]'(by omega) :: l.drop (i + 1) := List.drop_eq_getElem_cons (by omega)
    have hg : l[i]? = some (l[i]'(by omega)) := List.getElem?_eq_getElem (by omega)
    rw [run_inL]
    simp (disch := first | omega | exact rfl | assumption) [h3, h6, h7, h8, hlt, hg]
    rw [ih (i + 1) (min a (l[i]'(by omega))) _ (by omega) (by omega) hl (by simp) (by simp [h6]) (by simp [h7]) (by simp)]
    rw [hd]; rfl
theorem Min_eq (l : List Int) (hl : l.length < 9223372036854775807) : call T F_trop_Min [ints l] = some (.int .i64 (minL l INF), []) := by
  rw [call_code T T_trop_Min, enter_args (by simp)]
  simp (disch := first | omega | exact rfl | assumption)
  rw [Min_loop l _ 0 1152921504606846976 _ rfl (by omega) hl (by simp) (by simp) (by simp) (by simp)]
  simp [INF]

/-! Clone. -/
theorem Clone_eq (l : List Int) (hl : l.length * 8 ≤ 140737488355328) (h0 : 0 < l.length) : call T F_slices_Clone_Slint_int [ints l] = some (intsO l, []) := by
  rw [call_code T T_slices_Clone_Slint_int, enter_args (by simp)]
  simp (disch := first | omega | exact rfl | assumption)
theorem CloneC_eq (l : List Int) (hl : l.length * 8 ≤ 140737488355328) (h0 : 0 < l.length) : call T F_slices_Clone_mean_costs_int [ints l] = some (intsO l, []) := by
  rw [call_code T T_slices_Clone_mean_costs_int, enter_args (by simp)]
  simp (disch := first | omega | exact rfl | assumption)

/-! none -/
/-- A text: scalars, sets by names. -/
abbrev txt (sc : V) (m : V) : V := .agg [sc, m]
theorem take_set_snoc {α : Type} (l : List α) (i : Nat) (a : α) (h : i < l.length) : (l.set i a).take (i + 1) = l.take i ++ [a] := by
  rw [List.take_succ_eq_append_getElem (by simpa using h), List.take_set_of_le (Nat.le_refl _)]
  simp
theorem drop_set_succ {α : Type} (l : List α) (i : Nat) (a : α) : (l.set i a).drop (i + 1) = l.drop (i + 1) := by
  rw [List.drop_set_of_lt (by omega)]

theorem none_loop (n : Nat) (r : List Int) : ∀ (k i id nx : Nat) (env : Tr V) (L : Heap) (l : List Int), k = n - i → i ≤ n → n < 9223372036854775807 → l.length = n → r = l.take i ++ List.replicate (n - i) INF → Fm.look env 3 = .sl id 1 0 n → Fm.look env 11 = .int .i64 (n : Int) → Fm.look env 12 = .int .i64 (i : Int) →
    L.get id = some (.row 1 true true (l.map iv)) →
    Fm.run T fi_mean_text_none [.inL c_mean_text_none_6, .inB 0, .code c_mean_text_none_0] ⟨env, L, nx, []⟩ = some (intsO r, []) := by
  intro k
  induction k with
  | zero =>
    intro i id nx env L l hn hi hl hlen hr h3 h11 h12 hL
    have : ¬ ((i : Int) < (n : Int)) := by omega
    have e : i = n := by omega
    have hrl : r = l := by
      rw [hr, List.take_of_length_le (by omega), show n - i = 0 by omega]
      simp
    subst hrl
    clear hr
    rw [run_inL]
    simp (disch := first | omega | exact rfl | assumption) [h3, h11, h12, hL, this]
  | succ k ih =>
    intro i id nx env L l hn hi hl hlen hr h3 h11 h12 hL
    have hlt : (i : Int) < (n : Int) := by omega
    rw [run_inL]
    simp (disch := first | omega | exact rfl | assumption) [h3, h11, h12, hL, hlt]
    refine ih (i + 1) id _ _ _ (l.set i INF) (by omega) (by omega) hl (by simpa using hlen) ?_ (by simp [h3]) (by simp [h11]) (by simp) (by simp [INF])
    rw [hr, take_set_snoc _ _ _ (by omega), show n - i = (n - (i + 1)) + 1 by omega, List.replicate_succ, List.append_assoc]
    rfl
theorem none_eq (sc : List Int) (m : V) (hm : plain1 m = true) (hc : isCell m = true) (hl : sc.length < 1000000) : call T F_mean_text_none [txt (ints sc) m] = some (intsO (List.replicate (sc.length + 1) INF), []) := by
  rw [call_code T T_mean_text_none, enter_args (by simp [hm])]
  simp (disch := first | omega | exact rfl | assumption) [hc]
  refine none_loop (sc.length + 1) _ _ 0 1 _ _ _ (List.replicate (sc.length + 1) 0) rfl (by omega) (by omega) (by simp) (by simp) (by simp) (by simp) (by simp) (by simp)
end Go.Proofs.YtcnbopgbmimkcaaGreat
end

section
set_option autoImplicit false
set_option maxRecDepth 100000
set_option linter.unusedSimpArgs false
set_option linter.unusedVariables false
namespace Go.Proofs.YtcnbopgbmimkcaaGreat
open Go Go.Fm Go.Proofs
/-- Patterns. -/
inductive Px where
  | none
  | set (nm : List UInt8)
  | any
  | cat (a b : Px)
  | alt (a b : Px)
  | star (a : Px)
  | times (a : Px) (lo hi : Nat)
  | weight (a : Px) (w : Nat)
/-- A pattern's cells. -/
abbrev rex (k lo hi w : Int) (nm : List UInt8) (l : V) : List V := [.int .i64 k, .int .i64 lo, .int .i64 hi, .int .i64 w, .str nm, l]
def Px.cells : Px → List V
  | .none => rex 1 0 0 0 [] .nilsl
  | .set nm => rex 2 0 0 0 nm .nilsl
  | .any => rex 3 0 0 0 [] .nilsl
  | .cat a b => rex 4 0 0 0 [] (.arr .fresh 6 [a.cells, b.cells])
  | .alt a b => rex 5 0 0 0 [] (.arr .fresh 6 [a.cells, b.cells])
  | .star a => rex 6 0 0 0 [] (.arr .fresh 6 [a.cells])
  | .times a lo hi => rex 7 lo hi 0 [] (.arr .fresh 6 [a.cells])
  | .weight a w => rex 8 0 0 w [] (.arr .fresh 6 [a.cells])
theorem Px.cells_plain (x : Px) : x.cells.all plain1 = true := by cases x <;> rfl
theorem Px.cells_cell (x : Px) : x.cells.all isCell = true := by cases x <;> rfl
theorem Px.cells_len (x : Px) : x.cells.length = 6 := by cases x <;> rfl
theorem Px.cells_noOld (x : Px) : noOldL x.cells = true := by
  induction x <;> simp [Px.cells, *]
/-- Parts. -/
def Px.parts : Px → List Px
  | .cat a b => [a, b]
  | .alt a b => [a, b]
  | .star a => [a]
  | .times a _ _ => [a]
  | .weight a _ => [a]
  | _ => []
def Px.kind : Px → Int
  | .none => 1 | .set _ => 2 | .any => 3 | .cat _ _ => 4 | .alt _ _ => 5 | .star _ => 6 | .times _ _ _ => 7 | .weight _ _ => 8
def Px.bare : Px → Bool
  | .none => true
  | .set _ => false
  | .any => false
  | .cat a b => a.bare && b.bare
  | .alt a b => a.bare && b.bare
  | .star a => a.bare
  | .times a _ _ => a.bare
  | .weight a _ => a.bare

@[simp] theorem px_plain1 (x : Px) : x.cells.all plain1 = true := x.cells_plain
@[simp] theorem px_cell (x : Px) : x.cells.all isCell = true := x.cells_cell
@[simp] theorem px_len (x : Px) : x.cells.length = 6 := x.cells_len
@[simp] theorem px_noOld (x : Px) : noOldL x.cells = true := x.cells_noOld
@[simp] theorem px_take (x : Px) : x.cells.take 6 = x.cells := List.take_of_length_le (by simp)

/-- Where the first one is. -/
def idxF (p : Px → Bool) : List Px → Int → Int
  | [], _ => -1
  | y :: l, i => if p y = true then i else idxF p l (i + 1)
theorem idxF_iff (p : Px → Bool) : ∀ (l : List Px) (i : Int), 0 ≤ i → (decide (idxF p l i ≥ 0) = l.any p)
  | [], i, h => by simp [idxF]
  | y :: l, i, h => by
    have ih := idxF_iff p l (i + 1) (by omega)
    cases hp : p y with
    | true => simp [idxF, hp, h]
    | false => simp only [idxF, hp, List.any_cons, Bool.false_or]; simpa using ih
theorem IndexFunc_loop (p : Px → Bool) (l : List Px) (hp : ∀ y ∈ l, call T F_mean_bare_1 [.agg y.cells] = some (.bool (p y), [])) : ∀ (n i : Nat) (env : Tr V), n = l.length - i → i ≤ l.length → l.length < 9223372036854775807 →
    Fm.look env 0 = .arr .fresh 6 (l.map Px.cells) → Fm.look env 1 = .fn F_mean_bare_1 [] [] → Fm.look env 7 = .int .i64 (l.length : Int) → Fm.look env 8 = .int .i64 (i : Int) →
    Fm.run T fi_slices_IndexFunc_Slapi_Rex_api_Rex [.inL c_slices_IndexFunc_Slapi_Rex_api_Rex_8, .inB 0, .code c_slices_IndexFunc_Slapi_Rex_api_Rex_0] ⟨env, .e, 0, []⟩ =
      some (.int .i64 (idxF p (l.drop i) i), []) := by
  intro n
  induction n with
  | zero =>
    intro i env hn hi hl h0 h1 h7 h8
    have : ¬ ((i : Int) < (l.length : Int)) := by omega
    have hd : l.drop i = [] := List.drop_eq_nil_of_le (by omega)
    rw [run_inL]
    simp (disch := first | omega | assumption | simp) [h7, h8, this, hd, idxF]
  | succ n ih =>
    intro i env hn hi hl h0 h1 h7 h8
    have hlt : (i : Int) < (l.length : Int) := by omega
    have hil : i < l.length := by omega
    have hd : l.drop i = l[i] :: l.drop (i + 1) := List.drop_eq_getElem_cons (by omega)
    have hc := hp l[i] (List.getElem_mem hil)
    rw [run_inL, hd]
    cases hpl : p l[i] with
    | true => simp (disch := first | omega | assumption | simp) [h0, h1, h7, h8, hlt, hc, idxF, hpl, -List.getElem_cons_drop]
    | false =>
      simp (disch := first | omega | assumption | simp) [h0, h1, h7, h8, hlt, hc, idxF, hpl, -List.getElem_cons_drop]
      exact ih (i + 1) _ (by omega) (by omega) hl (by simp [h0]) (by simp [h1]) (by simp [h7]) (by simp)
theorem ContainsFunc_eq (p : Px → Bool) (l : List Px) (hp : ∀ y ∈ l, call T F_mean_bare_1 [.agg y.cells] = some (.bool (p y), [])) (hl : l.length < 9223372036854775807) :
    call T F_slices_ContainsFunc_Slapi_Rex_api_Rex [.arr .fresh 6 (l.map Px.cells), .fn F_mean_bare_1 [] []] = some (.bool (l.any p), []) := by
  have h1 : call T F_slices_IndexFunc_Slapi_Rex_api_Rex [.arr .fresh 6 (l.map Px.cells), .fn F_mean_bare_1 [] []] = some (.int .i64 (idxF p l 0), []) := by
    rw [call_code T T_slices_IndexFunc_Slapi_Rex_api_Rex, enter_args (by simp)]
    simp (disch := first | omega | assumption | simp)
    simpa using IndexFunc_loop p l hp _ 0 _ rfl (by omega) hl (by simp) (by simp) (by simp) (by simp)
  rw [call_code T T_slices_ContainsFunc_Slapi_Rex_api_Rex, enter_args (by simp)]
  simp (disch := first | omega | assumption | simp) [h1]
  have := idxF_iff p l 0 (by omega)
  simpa using this
theorem ContainsFunc_nil : call T F_slices_ContainsFunc_Slapi_Rex_api_Rex [.nilsl, .fn F_mean_bare_1 [] []] = some (.bool false, []) := by
  have h1 : call T F_slices_IndexFunc_Slapi_Rex_api_Rex [.nilsl, .fn F_mean_bare_1 [] []] = some (.int .i64 (-1), []) := by
    rw [call_code T T_slices_IndexFunc_Slapi_Rex_api_Rex, enter_args (by simp)]
    simp (disch := first | omega | assumption | simp)
    rw [run_inL]
    simp (disch := first | omega | assumption | simp)
  rw [call_code T T_slices_ContainsFunc_Slapi_Rex_api_Rex, enter_args (by simp)]
  simp (disch := first | omega | assumption | simp) [h1]
/-- What does not match nothing but nothing. -/
theorem bare1_eq (x : Px) (h : call T F_mean_bare [.agg x.cells] = some (.bool x.bare, [])) : call T F_mean_bare_1 [.agg x.cells] = some (.bool (!x.bare), []) := by
  rw [call_code T T_mean_bare_1, enter_args (by simp)]
  simp (disch := first | omega | assumption | simp) [h]
theorem bare_eq (x : Px) : call T F_mean_bare [.agg x.cells] = some (.bool x.bare, []) := by
  induction x with
  | none =>
    rw [call_code T T_mean_bare, enter_args (by simp)]
    simp (disch := first | omega | assumption | simp) [Px.cells, ContainsFunc_nil, Px.bare]
  | set nm =>
    rw [call_code T T_mean_bare, enter_args (by simp)]
    simp (disch := first | omega | assumption | simp) [Px.cells, Px.bare]
  | any =>
    rw [call_code T T_mean_bare, enter_args (by simp)]
    simp (disch := first | omega | assumption | simp) [Px.cells, Px.bare]
  | cat a b ha hb =>
    have hc := ContainsFunc_eq (fun y => !y.bare) [a, b] (fun y hy => by simp at hy; rcases hy with rfl | rfl; exact bare1_eq _ ha; exact bare1_eq _ hb) (by simp)
    simp only [List.map_cons, List.map_nil] at hc
    rw [call_code T T_mean_bare, enter_args (by simp)]
    simp (disch := first | omega | assumption | simp) [Px.cells, hc, Px.bare]
  | alt a b ha hb =>
    have hc := ContainsFunc_eq (fun y => !y.bare) [a, b] (fun y hy => by simp at hy; rcases hy with rfl | rfl; exact bare1_eq _ ha; exact bare1_eq _ hb) (by simp)
    simp only [List.map_cons, List.map_nil] at hc
    rw [call_code T T_mean_bare, enter_args (by simp)]
    simp (disch := first | omega | assumption | simp) [Px.cells, hc, Px.bare]
  | star a ha =>
    have hc := ContainsFunc_eq (fun y => !y.bare) [a] (fun y hy => by simp at hy; subst hy; exact bare1_eq _ ha) (by simp)
    simp only [List.map_cons, List.map_nil] at hc
    rw [call_code T T_mean_bare, enter_args (by simp)]
    simp (disch := first | omega | assumption | simp) [Px.cells, hc, Px.bare]
  | times a lo hi ha =>
    have hc := ContainsFunc_eq (fun y => !y.bare) [a] (fun y hy => by simp at hy; subst hy; exact bare1_eq _ ha) (by simp)
    simp only [List.map_cons, List.map_nil] at hc
    rw [call_code T T_mean_bare, enter_args (by simp)]
    simp (disch := first | omega | assumption | simp) [Px.cells, hc, Px.bare]
  | weight a w ha =>
    have hc := ContainsFunc_eq (fun y => !y.bare) [a] (fun y hy => by simp at hy; subst hy; exact bare1_eq _ ha) (by simp)
    simp only [List.map_cons, List.map_nil] at hc
    rw [call_code T T_mean_bare, enter_args (by simp)]
    simp (disch := first | omega | assumption | simp) [Px.cells, hc, Px.bare]
end Go.Proofs.YtcnbopgbmimkcaaGreat
end

section
set_option autoImplicit false
set_option maxRecDepth 100000
set_option linter.unusedSimpArgs false
set_option linter.unusedVariables false
namespace Go.Proofs.YtcnbopgbmimkcaaGreat
open Go Go.Fm Go.Proofs
theorem addI_nn {a b : Int} (ha : 0 ≤ a) (hb : 0 ≤ b) : 0 ≤ addI a b := by unfold addI INF; omega
theorem minL_nn : ∀ (l : List Int) (a : Int), 0 ≤ a → (∀ x ∈ l, 0 ≤ x) → 0 ≤ minL l a
  | [], a, h, _ => h
  | x :: l, a, h, hl => by
    have hx := hl x (List.mem_cons_self ..)
    exact minL_nn l (min a x) (by omega) fun y hy => hl y (List.mem_cons_of_mem _ hy)
/-- So many times the same. -/
def sumI (n : Int) : Nat → Int → Int
  | 0, acc => acc
  | k + 1, acc => sumI n k (addI acc n)
theorem sumI_nn (n : Int) (hn : 0 ≤ n) : ∀ (k : Nat) (acc : Int), 0 ≤ acc → 0 ≤ sumI n k acc
  | 0, acc, h => h
  | k + 1, acc, h => sumI_nn n hn k _ (addI_nn h hn)
def Px.noth : Px → Int
  | .none => 0
  | .set _ => 0
  | .any => 0
  | .cat a b => addI (addI 0 a.noth) b.noth
  | .alt a b => minL [minL [INF, a.noth] INF, b.noth] INF
  | .star _ => 0
  | .times a lo _ => sumI (addI 0 a.noth) (min lo 12) 0
  | .weight a w => addI (addI 0 a.noth) w
theorem Px.noth_nn (x : Px) : 0 ≤ x.noth := by
  induction x with
  | none => exact Int.le_refl _
  | set nm => exact Int.le_refl _
  | any => exact Int.le_refl _
  | cat a b ha hb => exact addI_nn (addI_nn (by omega) ha) hb
  | alt a b ha hb =>
    have h0 : (0 : Int) ≤ INF := by unfold INF; omega
    refine minL_nn _ _ h0 fun y hy => ?_
    simp only [List.mem_cons, List.not_mem_nil, or_false] at hy
    rcases hy with rfl | rfl
    · refine minL_nn _ _ h0 fun y hy => ?_
      simp only [List.mem_cons, List.not_mem_nil, or_false] at hy
      rcases hy with rfl | rfl
      · exact h0
      · exact ha
    · exact hb
  | star a ha => exact Int.le_refl _
  | times a lo hi ha => exact sumI_nn _ (addI_nn (by omega) ha) _ _ (by omega)
  | weight a w ha => exact addI_nn (addI_nn (by omega) ha) (by omega)

theorem nothing_loop (v : Int) (hv : 0 ≤ v) (m : Nat) (hm : m ≤ 12) (L : Heap) (nx : Nat) : ∀ (n i : Nat) (acc : Int) (env : Tr V), n = m - i → i ≤ m → 0 ≤ acc → Fm.look env 3 = .int .i64 v → Fm.look env 8 = .int .i64 acc → Fm.look env 38 = .int .i64 (m : Int) → Fm.look env 39 = .int .i64 (i : Int) →
    Fm.run T fi_mean_nothing [.inL c_mean_nothing_8, .inB 3, .code c_mean_nothing_3, .inB 2, .code c_mean_nothing_0] ⟨env, L, nx, []⟩ = some (.int .i64 (sumI v (m - i) acc), []) := by
  intro n
  induction n with
  | zero =>
    intro i acc env hn hi ha h3 h8 h38 h39
    have : ¬ ((i : Int) < (m : Int)) := by omega
    have e : m - i = 0 := by omega
    rw [run_inL, e]
    simp (disch := first | omega | assumption | simp) [h3, h8, h38, h39, this, sumI]
  | succ n ih =>
    intro i acc env hn hi ha h3 h8 h38 h39
    have hlt : (i : Int) < (m : Int) := by omega
    have e : m - i = (m - (i + 1)) + 1 := by omega
    have hc := Add_eq acc v ha hv
    rw [run_inL, e]
    simp (disch := first | omega | assumption | simp) [h3, h8, h38, h39, hlt, hc, sumI]
    exact ih (i + 1) _ _ (by omega) (by omega) (addI_nn ha hv) (by simp [h3]) (by simp) (by simp [h38]) (by simp)
theorem minL2_nn {a b : Int} (ha : 0 ≤ a) (hb : 0 ≤ b) : 0 ≤ minL [a, b] INF := minL_nn _ _ (by unfold INF; omega) fun y hy => by
  simp only [List.mem_cons, List.not_mem_nil, or_false] at hy
  rcases hy with rfl | rfl
  · exact ha
  · exact hb
theorem INF_nn : (0 : Int) ≤ INF := by unfold INF; omega
theorem Min2_eq (a b : Int) : call T F_trop_Min [.arr .fresh 1 [[.int .i64 a], [.int .i64 b]]] = some (.int .i64 (minL [a, b] INF), []) := Min_eq [a, b] (by simp)
theorem Add0_eq (a : Int) (h : 0 ≤ a) : call T F_trop_Add [.int .i64 0, .int .i64 a] = some (.int .i64 (addI 0 a), []) := Add_eq 0 a (by omega) h
theorem nothing_eq (x : Px) : call T F_mean_nothing [.agg x.cells] = some (.int .i64 x.noth, []) := by
  induction x with
  | none =>
    rw [call_code T T_mean_nothing, enter_args (by simp)]
    simp (disch := first | omega | assumption | simp) [Px.cells, run_inL, Px.noth]
  | set nm =>
    rw [call_code T T_mean_nothing, enter_args (by simp)]
    simp (disch := first | omega | assumption | simp) [Px.cells, run_inL, Px.noth]
  | any =>
    rw [call_code T T_mean_nothing, enter_args (by simp)]
    simp (disch := first | omega | assumption | simp) [Px.cells, run_inL, Px.noth]
  | weight a w ha =>
    have h0 := a.noth_nn
    have h3 := Add_eq (addI 0 a.noth) w (addI_nn (by omega) h0) (by omega)
    rw [call_code T T_mean_nothing, enter_args (by simp)]
    simp (disch := first | omega | assumption | simp) [Px.cells, run_inL, Px.noth, ha, Add0_eq, Min2_eq, h3]
  | star a ha =>
    have h0 := a.noth_nn
    rw [call_code T T_mean_nothing, enter_args (by simp)]
    simp (disch := first | omega | assumption | simp) [Px.cells, run_inL, Px.noth, ha, Add0_eq, Min2_eq]
  | cat a b ha hb =>
    have h0 := a.noth_nn
    have h1 := b.noth_nn
    have h3 := Add_eq (addI 0 a.noth) b.noth (addI_nn (by omega) h0) h1
    rw [call_code T T_mean_nothing, enter_args (by simp)]
    simp (disch := first | omega | assumption | simp) [Px.cells, run_inL, Px.noth, ha, hb, Add0_eq, Min2_eq, h3]
  | alt a b ha hb =>
    have h0 := a.noth_nn
    have h1 := b.noth_nn
    have h3 := Add_eq (addI 0 a.noth) b.noth (addI_nn (by omega) h0) h1
    rw [call_code T T_mean_nothing, enter_args (by simp)]
    simp (disch := first | omega | assumption | simp) [Px.cells, run_inL, Px.noth, ha, hb, Add0_eq, Min2_eq, h3, INF]
  | times a lo hi ha =>
    have h0 := a.noth_nn
    have hm : max (lo : Int) 0 = lo := by omega
    have hm2 : min (lo : Int) 12 = ((min lo 12 : Nat) : Int) := by omega
    rw [call_code T T_mean_nothing, enter_args (by simp)]
    simp (disch := first | omega | assumption | simp) [Px.cells, -run_loop']
    rw [run_loop, ← run_inL]
    rw [run_inL]
    simp (disch := first | omega | assumption | simp) [ha, Add0_eq, Min2_eq, -run_loop']
    rw [run_inL]
    simp (disch := first | omega | assumption | simp) [hm, hm2]
    exact nothing_loop (addI 0 a.noth) (addI_nn (by omega) h0) (min lo 12) (by omega) _ _ _ 0 0 _ rfl (by omega) (by omega) (by simp) (by simp) (by simp) (by simp)
end Go.Proofs.YtcnbopgbmimkcaaGreat
end

section
set_option autoImplicit false
set_option maxRecDepth 100000
set_option linter.unusedSimpArgs false
set_option linter.unusedVariables false
namespace Go.Proofs.YtcnbopgbmimkcaaGreat
open Go Go.Fm Go.Proofs
/-- A slice of numbers that is looked at alone. -/
structure Slc (v : V) (l : List Int) : Prop where
  len : lenV v = some (.int .i64 (l.length : Int))
  adr : ∀ (k : IntKind) (n : Int), 0 ≤ n → n < l.length → iaddrV 1 v (.int k n) = some (.ro .fresh ((l[n.toNat]?.map iv).getD []))
  pl : plain1 v = true
  pl' : plain v = true
  cl : isCell v = true
  no : noOld v = true
  cells : v.cells = [v]
theorem Slc.ints (l : List Int) : Slc (ints l) l := ⟨by simp, fun k n h0 h1 => by simp (disch := first | omega | assumption), rfl, rfl, rfl, noOld_iv l, rfl⟩
theorem Slc.nil : Slc .nilsl [] := ⟨rfl, fun k n h0 h1 => by simp at h1; omega, rfl, rfl, rfl, rfl, rfl⟩

theorem none_eq' {v : V} {sc : List Int} (hv : Slc v sc) (m : V) (hm : plain1 m = true) (hc : isCell m = true) (hl : sc.length < 1000000) : call T F_mean_text_none [txt v m] = some (intsO (List.replicate (sc.length + 1) INF), []) := by
  rw [call_code T T_mean_text_none, enter_args (by simp [hm, hv.pl])]
  simp (disch := first | omega | assumption | simp) [hc, hv.cl, hv.len]
  refine none_loop (sc.length + 1) _ _ 0 1 _ _ _ (List.replicate (sc.length + 1) 0) rfl (by omega) (by omega) (by simp) (by simp) (by simp) (by simp) (by simp) (by simp)

/-! dearer -/
theorem dearer_loop (w : Int) (hw : 0 ≤ w) (r : List Int) (nx : Nat) (id : Nat) : ∀ (k i : Nat) (env : Tr V) (L : Heap) (l : List Int), k = l.length - i → i ≤ l.length → l.length < 1000000 → (∀ x ∈ l, 0 ≤ x) → r = l.take i ++ (l.drop i).map (fun x => addI x w) →
    Fm.look env 2 = .int .i64 w → Fm.look env 7 = .sl id 1 0 l.length → Fm.look env 12 = .int .i64 (l.length : Int) → Fm.look env 13 = .int .i64 (i : Int) →
    L.get id = some (.row 1 true true (l.map iv)) →
    Fm.run T fi_mean_text_dearer [.inL c_mean_text_dearer_6, .inB 0, .code c_mean_text_dearer_0] ⟨env, L, nx, []⟩ = some (ints r, []) := by
  intro k
  induction k with
  | zero =>
    intro i env L l hn hi hl hnn hr h2 h7 h12 h13 hL
    have : ¬ ((i : Int) < (l.length : Int)) := by omega
    have hrl : r = l := by rw [hr, List.take_of_length_le (by omega), List.drop_eq_nil_of_le (by omega)]; simp
    subst hrl
    clear hr
    rw [run_inL]
    simp (disch := first | omega | assumption | simp) [h7, h12, h13, hL, this]
  | succ k ih =>
    intro i env L l hn hi hl hnn hr h2 h7 h12 h13 hL
    have hlt : (i : Int) < (l.length : Int) := by omega
    have hil : i < l.length := by omega
    have hg : l[i]? = some l[i] := List.getElem?_eq_getElem hil
    have hx := hnn l[i] (List.getElem_mem hil)
    have hc := Add_eq l[i] w hx hw
    rw [run_inL]
    simp (disch := first | omega | assumption | simp) [h2, h7, h12, h13, hL, hlt, hg, hc]
    refine ih (i + 1) _ _ (l.set i (addI l[i] w)) (by simp; omega) (by simp; omega) (by simpa using hl) (fun x hx' => ?_) ?_ (by simp [h2]) (by simp [h7]) (by simp [h12]) (by simp) (by simp)
    · rcases List.mem_or_eq_of_mem_set hx' with h | h
      · exact hnn x h
      · subst h; exact addI_nn hx hw
    · rw [hr, take_set_snoc _ _ _ hil, drop_set_succ, List.drop_eq_getElem_cons hil, List.map_cons, List.append_assoc]
      rfl
theorem dearer_eq (v : V) (hv : plain v = true) (hv2 : v.cells.all isCell = true) (c : List Int) (w : Int) (hw : 0 ≤ w) (hl : c.length < 1000000) (h0 : 0 < c.length) (hnn : ∀ x ∈ c, 0 ≤ x) :
    call T F_mean_text_dearer [v, ints c, .int .i64 w] = some (ints (c.map fun x => addI x w), []) := by
  have hc := CloneC_eq c (by omega) h0
  rw [call_code T T_mean_text_dearer, enter_args (by simp [hv])]
  simp (disch := first | omega | assumption | simp) [hc, hv2]
  refine dearer_loop w hw _ 2 1 _ 0 _ _ c rfl (by omega) hl hnn (by simp) (by simp) (by simp) (by simp) (by simp) (by simp)
end Go.Proofs.YtcnbopgbmimkcaaGreat
end

section
set_option autoImplicit false
set_option maxRecDepth 100000
set_option linter.unusedSimpArgs false
set_option linter.unusedVariables false
namespace Go.Proofs.YtcnbopgbmimkcaaGreat
open Go Go.Fm Go.Proofs
/-! Equal -/
theorem Equal_loop (a b : List Int) (hab : a.length = b.length) (hl : a.length < 1000000) : ∀ (k i : Nat) (env : Tr V), k = a.length - i → i ≤ a.length →
    Fm.look env 0 = ints a → Fm.look env 1 = ints b → Fm.look env 12 = .int .i64 (a.length : Int) → Fm.look env 13 = .int .i64 (i : Int) →
    Fm.run T fi_slices_Equal_mean_costs_int [.inL c_slices_Equal_mean_costs_int_8, .inB 0, .code c_slices_Equal_mean_costs_int_0] ⟨env, .e, 0, []⟩ = some (.bool (a.drop i == b.drop i), []) := by
  intro k
  induction k with
  | zero =>
    intro i env hn hi h0 h1 h12 h13
    have : ¬ ((i : Int) < (a.length : Int)) := by omega
    have e1 : a.drop i = [] := List.drop_eq_nil_of_le (by omega)
    have e2 : b.drop i = [] := List.drop_eq_nil_of_le (by omega)
    rw [run_inL, e1, e2]
    simp (disch := first | omega | assumption | simp) [h12, h13, this]
  | succ k ih =>
    intro i env hn hi h0 h1 h12 h13
    have hlt : (i : Int) < (a.length : Int) := by omega
    have hlb : (i : Int) < (b.length : Int) := by omega
    have hia : i < a.length := by omega
    have hib : i < b.length := by omega
    have ga : a[i]? = some a[i] := List.getElem?_eq_getElem hia
    have gb : b[i]? = some b[i] := List.getElem?_eq_getElem hib
    rw [run_inL, List.drop_eq_getElem_cons hia, List.drop_eq_getElem_cons hib]
    by_cases he : a[i] = b[i]
    · simp (disch := first | omega | assumption | simp) [h0, h1, h12, h13, hlt, hlb, ga, gb, he, -List.getElem_cons_drop]
      have := ih (i + 1) (upd (upd (upd (upd (upd (upd (upd (upd (upd (upd (upd (upd (upd (upd env 14 (.bool true)) 15 (.int .i64 i)) 5 (.int .i64 i)) 16 (ints a)) 17 (.int .i64 i)) 18 (.ro .fresh (iv b[i]))) 19 (.int .i64 b[i])) 20 (ints b)) 21 (.int .i64 i)) 22 (.ro .fresh (iv b[i]))) 23 (.int .i64 b[i])) 24 (.bool false)) 25 (.int .i64 (i + 1))) 13 (.int .i64 (i + 1))) (by omega) (by omega) (by simp [h0]) (by simp [h1]) (by simp [h12]) (by simp)
      simpa using this
    · simp (disch := first | omega | assumption | simp) [h0, h1, h12, h13, hlt, hlb, ga, gb, he, -List.getElem_cons_drop]
theorem Equal_eq (a b : List Int) (hab : a.length = b.length) (hl : a.length < 1000000) : call T F_slices_Equal_mean_costs_int [ints a, ints b] = some (.bool (a == b), []) := by
  rw [call_code T T_slices_Equal_mean_costs_int, enter_args (by simp)]
  simp (disch := first | omega | assumption | simp) [hab]
  have := Equal_loop a b hab hl _ 0 (upd (upd (upd (upd (upd (upd (upd (upd (upd (upd (upd Tr.e 0 (ints a)) 1 (ints b)) 4 (.bool false)) 6 (ints a)) 7 (.int .i64 b.length)) 8 (ints b)) 9 (.int .i64 b.length)) 10 (.bool false)) 11 (ints a)) 12 (.int .i64 b.length)) 13 (.int .i64 0)) rfl (by omega) (by simp) (by simp) (by simp [hab]) (by simp)
  simpa using this

/-! on -/
def onL (f : Int → Bool) : List Int → List Int → List Int
  | n :: ns, x :: xs => (if x < INF ∧ f n = true then x else INF) :: onL f ns xs
  | _, _ => []
theorem on_loop (x : Px) (v m : V) (sc : List Int) (hv : Slc v sc) (hm : plain1 m = true) (hmc : isCell m = true) (f : Int → Bool) (hf : ∀ n ∈ sc, call T F_mean_text_of [txt v m, .agg x.cells, .int .i64 n] = some (.bool (f n), [])) (c : List Int) (hc : c.length = sc.length + 1) (hl : sc.length < 1000000)
    (r : List Int) (id i3 i4 nx : Nat) (h34 : i3 ≠ id ∧ i4 ≠ id) : ∀ (k i : Nat) (env : Tr V) (L : Heap) (l : List Int), k = sc.length - i → i ≤ sc.length → l.length = sc.length + 1 → r = l.take (i + 1) ++ onL f (sc.drop i) (c.drop i) → l.drop (i + 1) = List.replicate (sc.length - i) INF →
    Fm.look env 2 = ints c → Fm.look env 3 = .pt i3 0 0 → Fm.look env 4 = .pt i4 0 0 → Fm.look env 7 = .sl id 1 0 (sc.length + 1) → Fm.look env 13 = v → Fm.look env 14 = .int .i64 (sc.length : Int) → Fm.look env 15 = .int .i64 (i : Int) →
    L.get id = some (.row 1 true true (l.map iv)) → L.get i3 = some (.box [v, m]) → L.get i4 = some (.box x.cells) →
    Fm.run T fi_mean_text_on [.inL c_mean_text_on_8, .inB 0, .code c_mean_text_on_0] ⟨env, L, nx, []⟩ = some (ints r, []) := by
  intro k
  induction k with
  | zero =>
    intro i env L l hn hi hll hr hI h2 h3 h4 h7 h13 h14 h15 hL hL3 hL4
    have : ¬ ((i : Int) < (sc.length : Int)) := by omega
    have hrl : r = l := by rw [hr, List.take_of_length_le (by omega), List.drop_eq_nil_of_le (by omega : sc.length ≤ i)]; simp [onL]
    subst hrl
    clear hr
    rw [run_inL]
    simp (disch := first | omega | assumption | simp) [h7, h14, h15, hL, this]
  | succ k ih =>
    intro i env L l hn hi hll hr hI h2 h3 h4 h7 h13 h14 h15 hL hL3 hL4
    have hlt : (i : Int) < (sc.length : Int) := by omega
    have his : i < sc.length := by omega
    have hic : i < c.length := by omega
    have gs : sc[i]? = some sc[i] := List.getElem?_eq_getElem his
    have gc : c[i]? = some c[i] := List.getElem?_eq_getElem hic
    have hfi := hf sc[i] (List.getElem_mem his)
    have hp : plain (txt v m) = true := by simp [hv.pl, hm]
    have e1 : sc.length - i = (sc.length - (i + 1)) + 1 := by omega
    have hlh : l.drop (i + 1) = INF :: l.drop (i + 1 + 1) := by
      rw [List.drop_eq_getElem_cons (by omega : i + 1 < l.length)]
      congr 1
      have := congrArg (fun t : List Int => t[0]?) hI
      simpa [e1, List.replicate_succ, List.getElem?_drop, List.getElem?_eq_getElem (by omega : i + 1 < l.length)] using this
    have hI2 : l.drop (i + 1 + 1) = List.replicate (sc.length - (i + 1)) INF := by
      rw [e1, List.replicate_succ, hlh] at hI
      exact List.tail_eq_of_cons_eq hI
    rw [List.drop_eq_getElem_cons his, List.drop_eq_getElem_cons hic, onL] at hr
    rw [run_inL]
    by_cases hci : c[i] < INF
    · have hci' : c[i] < 1152921504606846976 := hci
      cases hfn : f sc[i] with
      | true =>
        simp (disch := first | omega | assumption | simp) [h2, h3, h4, h7, h13, h14, h15, hL, hL3, hL4, hlt, gs, gc, hv.adr, hfi, hci', hfn]
        refine ih (i + 1) _ _ (l.set (i + 1) c[i]) (by omega) (by omega) (by simpa using hll) ?_ (by rw [drop_set_succ]; exact hI2) (by simp [h2]) (by simp [h3]) (by simp [h4]) (by simp [h7]) (by simp [h13]) (by simp [h14]) (by simp) (by simp) (by simp (disch := omega) [hL3, h34]) (by simp (disch := omega) [hL4, h34])
        rw [hr, take_set_snoc _ _ _ (by omega), if_pos ⟨hci, hfn⟩, List.append_assoc]
        rfl
      | false =>
        simp (disch := first | omega | assumption | simp) [h2, h3, h4, h7, h13, h14, h15, hL, hL3, hL4, hlt, gs, gc, hv.adr, hfi, hci', hfn]
        refine ih (i + 1) _ _ l (by omega) (by omega) hll ?_ hI2 (by simp [h2]) (by simp [h3]) (by simp [h4]) (by simp [h7]) (by simp [h13]) (by simp [h14]) (by simp) (by simp [hL]) (by simp [hL3]) (by simp [hL4])
        rw [hr, if_neg (fun x => by rw [hfn] at x; exact absurd x.2 (by simp)), List.take_succ_eq_append_getElem (by omega : i + 1 < l.length), List.append_assoc]
        have : l[i + 1] = INF := by rw [List.drop_eq_getElem_cons (by omega : i + 1 < l.length)] at hlh; exact (List.cons.inj hlh).1
        rw [this]
        rfl
    · have hci' : ¬ c[i] < 1152921504606846976 := hci
      simp (disch := first | omega | assumption | simp) [h2, h3, h4, h7, h13, h14, h15, hL, hL3, hL4, hlt, gs, gc, hv.adr, hci']
      refine ih (i + 1) _ _ l (by omega) (by omega) hll ?_ hI2 (by simp [h2]) (by simp [h3]) (by simp [h4]) (by simp [h7]) (by simp [h13]) (by simp [h14]) (by simp) (by simp [hL]) (by simp [hL3]) (by simp [hL4])
      rw [hr, if_neg (fun x => hci x.1), List.take_succ_eq_append_getElem (by omega : i + 1 < l.length), List.append_assoc]
      have : l[i + 1] = INF := by rw [List.drop_eq_getElem_cons (by omega : i + 1 < l.length)] at hlh; exact (List.cons.inj hlh).1
      rw [this]
      rfl
theorem on_eq (x : Px) (v m : V) (sc : List Int) (hv : Slc v sc) (hm : plain1 m = true) (hmc : isCell m = true) (f : Int → Bool) (hf : ∀ n ∈ sc, call T F_mean_text_of [txt v m, .agg x.cells, .int .i64 n] = some (.bool (f n), [])) (c : List Int) (hc : c.length = sc.length + 1) (hl : sc.length < 1000000) :
    call T F_mean_text_on [txt v m, .agg x.cells, ints c] = some (ints (INF :: onL f sc c), []) := by
  have hp : plain (txt v m) = true := by simp [hv.pl, hm]
  have hn := none_eq' hv m hm hmc hl
  rw [call_code T T_mean_text_on, enter_args (by simp [hv.pl, hm])]
  simp (disch := first | omega | assumption | simp) [hv.cl, hmc, hn, hv.len]
  refine on_loop x v m sc hv hm hmc f hf c hc hl _ 2 0 1 3 (by omega) _ 0 _ _ (List.replicate (sc.length + 1) INF) rfl (by omega) (by simp) ?_ ?_ (by simp) (by simp) (by simp) (by simp) (by simp) (by simp) (by simp) (by simp) (by simp) (by simp)
  · simp [List.replicate_succ]
  · simp [List.replicate_succ]
end Go.Proofs.YtcnbopgbmimkcaaGreat
end

section
set_option autoImplicit false
set_option maxRecDepth 1000000
namespace Go.Proofs.YtcnbopgbmimkcaaGreat
open Go Go.Fm Go.Proofs
/-! What is the same in all laws: the four sets. -/
abbrev cls (k lo hi : Int) (nm : List UInt8) (l : V) : List V := [.int .i64 k, .int .i64 lo, .int .i64 hi, .str nm, l]
abbrev defsC : List (List V) := [.str [97] :: cls 1 97 97 [] .nilsl, .str [118] :: cls 1 97 99 [] .nilsl, .str [100] :: cls 5 0 0 [] (.arr .fresh 5 [cls 1 48 57 [] .nilsl, cls 1 19968 20223 [] .nilsl]),
  .str [115] :: cls 7 0 0 [] (.arr .fresh 5 [cls 3 0 0 [] .nilsl, cls 2 0 0 [118] .nilsl])]
abbrev defsV : V := .arr .fresh 6 defsC
abbrev rng (l : List (Int × Int)) : V := .arr .fresh 2 (l.map fun p => [.int .i64 p.1, .int .i64 p.2])
abbrev setsM : V := .map .fresh [(.str [97], .arr .fresh 2 [[.int .i64 97, .int .i64 97]]), (.str [118], .arr .fresh 2 [[.int .i64 97, .int .i64 99]]), (.str [100], .arr .fresh 2 [[.int .i64 48, .int .i64 57], [.int .i64 19968, .int .i64 20223]]),
  (.str [115], .arr .fresh 2 [[.int .i64 0, .int .i64 96], [.int .i64 100, .int .i64 1114111]])]
theorem Defs_eq : call T F_hyphenlaw5_Defs [.nilsl] = some (defsV, []) := call_of_runF 2000 (by kernel_rfl)
theorem begin_nn : call T F_mean_begin [.agg [defsV, .nilsl], .nilsl] = some (.agg [.nilsl, setsM], []) := call_of_runF 20000 (by kernel_rfl)
theorem begin_na (es : List (List V)) : call T F_mean_begin [.agg [defsV, .nilsl], .arr .fresh 1 es] = some (.agg [.arr .fresh 1 es, setsM], []) := call_of_runF 20000 (by kernel_rfl)
theorem begin_an (rs : List (List V)) : call T F_mean_begin [.agg [defsV, .arr .fresh 14 rs], .nilsl] = some (.agg [.nilsl, setsM], []) := call_of_runF 20000 (by kernel_rfl)
theorem begin_aa (rs es : List (List V)) : call T F_mean_begin [.agg [defsV, .arr .fresh 14 rs], .arr .fresh 1 es] = some (.agg [.arr .fresh 1 es, setsM], []) := call_of_runF 20000 (by kernel_rfl)
end Go.Proofs.YtcnbopgbmimkcaaGreat
end

section
set_option autoImplicit false
set_option maxRecDepth 100000
set_option linter.unusedSimpArgs false
set_option linter.unusedVariables false
namespace Go.Proofs.YtcnbopgbmimkcaaGreat
open Go Go.Fm Go.Proofs
/-- Which scalars are of a set. -/
def isOf (nm : List UInt8) (n : Int) : Bool :=
  if nm = [97] then decide (n = 97) else if nm = [118] then decide (97 ≤ n ∧ n ≤ 99) else if nm = [100] then decide (48 ≤ n ∧ n ≤ 57 ∨ 19968 ≤ n ∧ n ≤ 20223)
  else decide (0 ≤ n ∧ n ≤ 96 ∨ 100 ≤ n ∧ n ≤ 1114111)
def setsN : List (List UInt8) := [[97], [118], [100], [115]]
theorem Has1 (lo hi n : Int) : call T F_set_Has [.arr .fresh 2 [[.int .i64 lo, .int .i64 hi]], .int .i64 n] = some (.bool (decide (lo ≤ n ∧ n ≤ hi)), []) := by
  rw [call_code T T_set_Has, enter_args (by simp)]
  by_cases h1 : n < lo
  · simp (disch := first | omega | assumption | simp) [h1]
    omega
  · by_cases h2 : n > hi
    · simp (disch := first | omega | assumption | simp) [h1, h2]
      rw [run_goto_inS (by simp; rfl)]
      simp (disch := first | omega | assumption | simp) [h2]
    · simp (disch := first | omega | assumption | simp) [h1, h2]
      omega
theorem Has2 (lo hi lo' hi' n : Int) (h11 : lo ≤ hi) (h12 : hi < lo') : call T F_set_Has [.arr .fresh 2 [[.int .i64 lo, .int .i64 hi], [.int .i64 lo', .int .i64 hi']], .int .i64 n] = some (.bool (decide (lo ≤ n ∧ n ≤ hi ∨ lo' ≤ n ∧ n ≤ hi')), []) := by
  rw [call_code T T_set_Has, enter_args (by simp)]
  by_cases h1 : n < lo
  · simp (disch := first | omega | assumption | simp) [h1]
    omega
  · by_cases h2 : n > hi
    · simp (disch := first | omega | assumption | simp) [h1, h2]
      rw [run_goto_inS (by simp; rfl)]
      by_cases h3 : n < lo'
      · simp (disch := first | omega | assumption | simp) [h3]
        omega
      · by_cases h4 : n > hi'
        · simp (disch := first | omega | assumption | simp) [h3, h4]
          rw [run_goto_inS (by simp; rfl)]
          simp (disch := first | omega | assumption | simp) [h4]
          omega
        · simp (disch := first | omega | assumption | simp) [h3, h4]
          omega
    · simp (disch := first | omega | assumption | simp) [h1, h2]
      omega
theorem of_any (v : V) (hv : plain1 v = true) (hc : isCell v = true) (n : Int) : call T F_mean_text_of [txt v setsM, .agg Px.any.cells, .int .i64 n] = some (.bool true, []) := by
  rw [call_code T T_mean_text_of, enter_args (by simp [hv])]
  simp (disch := first | omega | assumption | simp) [hc, Px.cells]
theorem of_set (v : V) (hv : plain1 v = true) (hc : isCell v = true) (nm : List UInt8) (hn : nm ∈ setsN) (n : Int) : call T F_mean_text_of [txt v setsM, .agg (Px.set nm).cells, .int .i64 n] = some (.bool (isOf nm n), []) := by
  have h1 := Has1 97 97 n
  have h2 := Has1 97 99 n
  have h3 := Has2 48 57 19968 20223 n (by omega) (by omega)
  have h4 := Has2 0 96 100 1114111 n (by omega) (by omega)
  have e1 : (decide (97 ≤ n ∧ n ≤ 97)) = decide (n = 97) := by
    rw [decide_eq_decide]; omega
  rw [call_code T T_mean_text_of, enter_args (by simp [hv])]
  simp only [setsN, List.mem_cons, List.not_mem_nil, or_false] at hn
  rcases hn with rfl | rfl | rfl | rfl
  · simp (disch := first | omega | assumption | simp) [hc, Px.cells, h1, isOf]
    rw [Bool.eq_iff_iff]
    simp
    omega
  · simp (disch := first | omega | assumption | simp) [hc, Px.cells, h2, isOf]
  · simp (disch := first | omega | assumption | simp) [hc, Px.cells, h3, isOf]
  · simp (disch := first | omega | assumption | simp) [hc, Px.cells, h4, isOf]
end Go.Proofs.YtcnbopgbmimkcaaGreat
end

section
set_option autoImplicit false
set_option maxRecDepth 100000
set_option linter.unusedSimpArgs false
set_option linter.unusedVariables false
namespace Go.Proofs.YtcnbopgbmimkcaaGreat
open Go Go.Fm Go.Proofs
def leastF (a b : List Int) : List Int := List.zipWith (fun x y => minL [x, y] INF) a b
theorem least_loop (b : List Int) (hl : b.length < 1000000) (r : List Int) (id nx : Nat) : ∀ (k i : Nat) (env : Tr V) (L : Heap) (l : List Int), k = b.length - i → i ≤ b.length → l.length = b.length → r = l.take i ++ leastF (l.drop i) (b.drop i) →
    Fm.look env 3 = .sl id 1 0 b.length → Fm.look env 14 = .int .i64 1 → Fm.look env 15 = .int .i64 0 → Fm.look env 19 = ints b → Fm.look env 20 = .int .i64 (b.length : Int) → Fm.look env 21 = .int .i64 (i : Int) →
    L.get id = some (.row 1 true true (l.map iv)) → id < nx →
    ∀ nx', nx ≤ nx' → Fm.run T fi_mean_least [.inL c_mean_least_7, .inB 2, .inB 1, .code c_mean_least_1, .inL c_mean_least_14, .inB 0, .code c_mean_least_0] ⟨env, L, nx', []⟩ = some (ints r, []) := by
  intro k
  induction k with
  | zero =>
    intro i env L l hn hi hll hr h3 h14 h15 h19 h20 h21 hL hid nx' hnx
    have : ¬ ((i : Int) < (b.length : Int)) := by omega
    have hrl : r = l := by rw [hr, List.take_of_length_le (by omega), List.drop_eq_nil_of_le (by omega : b.length ≤ i)]; simp [leastF]
    subst hrl
    clear hr
    rw [run_inL]
    simp (disch := first | omega | assumption | simp) [h3, h14, h15, h20, h21, hL, this]
    rw [run_inL]
    simp (disch := first | omega | assumption | simp) [h3, h14, h15, h20, h21, hL, this]
  | succ k ih =>
    intro i env L l hn hi hll hr h3 h14 h15 h19 h20 h21 hL hid nx' hnx
    have hlt : (i : Int) < (b.length : Int) := by omega
    have hib : i < b.length := by omega
    have hil : i < l.length := by omega
    have gb : b[i]? = some b[i] := List.getElem?_eq_getElem hib
    have gl : l[i]? = some l[i] := List.getElem?_eq_getElem hil
    have hne : id ≠ nx' := by omega
    have hne' : nx' ≠ id := by omega
    rw [List.drop_eq_getElem_cons hil, List.drop_eq_getElem_cons hib] at hr
    rw [run_inL]
    simp (disch := first | omega | assumption | simp) [h3, h14, h15, h19, h20, h21, hL, hlt, gb, gl, Min2_eq, hne, hne']
    refine ih (i + 1) _ _ (l.set i (minL [l[i], b[i]] INF)) (by omega) (by omega) (by simpa using hll) ?_ (by simp [h3]) (by simp [h14]) (by simp [h15]) (by simp [h19]) (by simp [h20]) (by simp) (by simp (disch := omega) [hL]) hid _ (by omega)
    rw [hr, take_set_snoc _ _ _ hil, drop_set_succ, List.append_assoc]
    rfl
theorem least_eq (a b : List Int) (hab : a.length = b.length) (h0 : 0 < b.length) (hl : b.length < 1000000) : call T F_mean_least [.arr .fresh 1 [[ints a], [ints b]]] = some (ints (leastF a b), []) := by
  have hc := CloneC_eq a (by omega) (by omega)
  rw [call_code T T_mean_least, enter_args (by simp)]
  simp (disch := first | omega | assumption | simp) [hc, hab]
  rw [run_inL]
  simp (disch := first | omega | assumption | simp)
  exact least_loop b hl _ 0 1 _ 0 _ _ a rfl (by omega) hab (by simp) (by simp) (by simp) (by simp) (by simp) (by simp) (by simp) (by simp) (by omega) 1 (by omega)

/-- A row of costs: so many, none below nothing. -/
structure Good (n : Nat) (c : List Int) : Prop where
  len : c.length = n
  nn : ∀ x ∈ c, 0 ≤ x
theorem leastF_good {n : Nat} {a b : List Int} (ha : Good n a) (hb : Good n b) : Good n (leastF a b) := by
  refine ⟨by simp [leastF, ha.len, hb.len], fun x hx => ?_⟩
  unfold leastF at hx
  obtain ⟨i, hi⟩ := List.mem_iff_getElem?.1 hx
  rw [List.getElem?_zipWith] at hi
  cases h1 : a[i]? with
  | none => rw [h1] at hi; cases hi
  | some y =>
    cases h2 : b[i]? with
    | none => rw [h1, h2] at hi; cases hi
    | some z =>
      rw [h1, h2] at hi
      cases hi
      exact minL2_nn (ha.nn y (List.mem_of_getElem? h1)) (hb.nn z (List.mem_of_getElem? h2))
/-- As often as one likes, so many times at most. -/
def oftenF (R : List Int → List Int) : Nat → List Int → List Int → List Int
  | 0, _, out => out
  | k + 1, c, out => if leastF out (R c) = out then out else oftenF R k (R c) (leastF out (R c))
@[simp] theorem refs_arr (g : HeapF) (d sz : Nat) (es : List (List V)) : refs g (d + 1) (.arr .fresh sz es) = [] := rfl
@[simp] theorem dr_arr (g : HeapF) (fl : Fl) (d sz : Nat) (es : List (List V)) : dr g fl (d + 1) (.arr .fresh sz es) = some (.arr .fresh sz es) := rfl
theorem often_loop (v m : V) (a : Px) (hp : plain (txt v m) = true) (n : Nat) (hn0 : 0 < n) (hn1 : n < 1000000) (R : List Int → List Int)
    (hR : ∀ c, Good n c → call T F_mean_text_run [txt v m, .agg a.cells, ints c] = some (ints (R c), []) ∧ Good n (R c)) (M : Nat) (hM : M < 1000000) (i4 i5 : Nat) : ∀ (k i : Nat) (env : Tr V) (L : Heap) (nx : Nat) (c out : List Int), k = M - i → i ≤ M → Good n c → Good n out →
    (Fm.look env 9 = ints out ∨ ∃ id, Fm.look env 9 = .sl id 1 0 n ∧ L.get id = some (.row 1 true true (out.map iv)) ∧ id < nx ∧ id ≠ i4 ∧ id ≠ i5) →
    Fm.look env 2 = ints c → Fm.look env 4 = .pt i4 0 0 → Fm.look env 5 = .pt i5 0 0 → Fm.look env 14 = .int .i64 (M : Int) → Fm.look env 15 = .int .i64 (i : Int) →
    L.get i4 = some (.box [v, m]) → L.get i5 = some (.box a.cells) → i4 < nx → i5 < nx →
    Fm.run T fi_mean_text_often [.inL c_mean_text_often_10, .inB 0, .code c_mean_text_often_0] ⟨env, L, nx, []⟩ = some (ints (oftenF R (M - i) c out), []) := by
  intro k
  induction k with
  | zero =>
    intro i env L nx c out hn hi hc hout h9 h2 h4 h5 h14 h15 hL4 hL5 l4 l5
    have : ¬ ((i : Int) < (M : Int)) := by omega
    have e : M - i = 0 := by omega
    have hol := hout.len
    rw [run_inL, e, oftenF]
    rcases h9 with h9 | ⟨id, h9, hL, hid, hi4, hi5⟩
    · simp (disch := first | omega | assumption | simp) [h9, h14, h15, this]
    · simp (disch := first | omega | assumption | simp) [h9, h14, h15, this, hL]
  | succ k ih =>
    intro i env L nx c out hn hi hc hout h9 h2 h4 h5 h14 h15 hL4 hL5 l4 l5
    have hlt : (i : Int) < (M : Int) := by omega
    have e : M - i = (M - (i + 1)) + 1 := by omega
    obtain ⟨hr, hg⟩ := hR c hc
    have hol := hout.len
    have hcl := hg.len
    have hle := least_eq out (R c) (by omega) (by omega) (by omega)
    have hlg := leastF_good hout hg
    have heq := Equal_eq (leastF out (R c)) out (by rw [hlg.len, hout.len]) (by rw [hlg.len]; omega)
    rw [run_inL, e, oftenF]
    rcases h9 with h9 | ⟨id, h9, hL, hid, hi4, hi5⟩
    · by_cases hsame : leastF out (R c) = out
      · have hb : (leastF out (R c) == out) = true := by simpa using hsame
        rw [if_pos hsame]
        simp (disch := first | omega | assumption | simp) [h2, h4, h5, h9, h14, h15, hL4, hL5, hlt, hr, hle, heq, hb]
      · have hb : (leastF out (R c) == out) = false := by simpa using hsame
        rw [if_neg hsame]
        simp (disch := first | omega | assumption | simp) [h2, h4, h5, h9, h14, h15, hL4, hL5, hlt, hr, hle, heq, hb]
        refine ih (i + 1) _ _ _ (R c) (leastF out (R c)) (by omega) (by omega) hg hlg (.inl (by simp)) (by simp) (by simp [h4]) (by simp [h5]) (by simp [h14]) (by simp) (by simp (disch := omega) [hL4]) (by simp (disch := omega) [hL5]) (by omega) (by omega)
    · simp (disch := first | omega | assumption | simp) [h2, h4, h5, h9, h14, h15, hL4, hL5, hlt, hr]
      have hdr : ∀ X, dr (Tr.put L nx X).get .fresh 5 (.sl id 1 0 n) = some (.arr .fresh 1 (out.map iv)) := fun X => by
        rw [dr_sl_row (d := 4) (wr := true) (sz' := 1) (es := out.map iv) (by simp (disch := omega) [hL]) (by simp [hol])]
        rfl
      have hLX : ∀ X, (Tr.put L nx X).get id = some (.row 1 true true (out.map iv)) := fun X => by
        rw [Tr.get_put_ne _ _ _ _ (by omega)]
        exact hL
      have hrf : ∀ X, refs (Tr.put L nx X).get 5 (.sl id 1 0 n) = [id] := fun X => refs_row (hLX X) 4
      have hmo : ∀ X, mapO (mapO (dr (Tr.put L nx X).get .fresh 5)) [[.sl id 1 0 n], [.arr .fresh 1 ((R c).map iv)]] = some [[ints out], [ints (R c)]] := fun X => by
        simp only [mapO, hdr, dr_arr, Option.bind_some]
      rw [passTh_unclean (len := 2) rfl (hmo _)]
      by_cases hsame : leastF out (R c) = out
      · have hb : (leastF out (R c) == out) = true := by simpa using hsame
        rw [if_pos hsame]
        simp (disch := first | omega | assumption | simp) [h2, h4, h5, h9, h14, h15, hL4, hL5, hlt, hr, hle, heq, hb, hL, hrf]
      · have hb : (leastF out (R c) == out) = false := by simpa using hsame
        rw [if_neg hsame]
        simp (disch := first | omega | assumption | simp) [h2, h4, h5, h9, h14, h15, hL4, hL5, hlt, hr, hle, heq, hb, hL, hrf]
        refine ih (i + 1) _ _ _ (R c) (leastF out (R c)) (by omega) (by omega) hg hlg (.inl (by simp)) (by simp) (by simp [h4]) (by simp [h5]) (by simp [h14]) (by simp) (by simp (disch := omega) [hL4]) (by simp (disch := omega) [hL5]) (by omega) (by omega)
theorem often_eq (v m : V) (hv : plain1 v = true) (hvc : isCell v = true) (hm : plain1 m = true) (hmc : isCell m = true) (a : Px) (n : Nat) (hn0 : 0 < n) (hn1 : n < 1000000) (R : List Int → List Int)
    (hR : ∀ c, Good n c → call T F_mean_text_run [txt v m, .agg a.cells, ints c] = some (ints (R c), []) ∧ Good n (R c)) (M : Nat) (hM : M < 1000000) (c : List Int) (hc : Good n c) :
    call T F_mean_text_often [txt v m, .agg a.cells, ints c, .int .i64 M] = some (ints (oftenF R M c c), []) := by
  have hp : plain (txt v m) = true := by simp [hv, hm]
  have hcl := hc.len
  have hcc := CloneC_eq c (by omega) (by omega)
  have hmx : max (M : Int) 0 = M := by omega
  rw [call_code T T_mean_text_often, enter_args (by simp [hv, hm])]
  simp (disch := first | omega | assumption | simp) [hvc, hmc, hcc, hmx]
  exact often_loop v m a hp n hn0 hn1 R hR M hM 0 1 _ 0 _ _ 3 c c rfl (by omega) hc hc (.inr ⟨2, by simp [hcl], by simp, by omega, by omega, by omega⟩) (by simp) (by simp) (by simp) (by simp) (by simp) (by simp) (by simp) (by omega) (by omega)
end Go.Proofs.YtcnbopgbmimkcaaGreat
end

section
set_option autoImplicit false
set_option maxRecDepth 100000
set_option linter.unusedSimpArgs false
set_option linter.unusedVariables false
namespace Go.Proofs.YtcnbopgbmimkcaaGreat
open Go Go.Fm Go.Proofs
theorem part_eq (x : Px) (i : Nat) (y : Px) (h : x.parts[i]? = some y) : call T F_mean_text_run_1 [.int .i64 (i : Int), .ro .old x.cells] = some (.agg y.cells, []) := by
  rw [call_code T T_mean_text_run_1, enter_args (by simp)]
  cases x <;> simp only [Px.parts] at h <;> try (simp at h; done)
  all_goals
    match i, h with
    | 0, h =>
      simp at h
      subst h
      simp (disch := first | omega | assumption | simp) [Px.cells]
    | 1, h =>
      simp at h
      try subst h
      try simp (disch := first | omega | assumption | simp) [Px.cells]
    | i + 2, h => simp at h

def timesF (R : List Int → List Int) : Nat → List Int → List Int
  | 0, c => c
  | k + 1, c => if R c = c then c else timesF R k (R c)
def Px.run (sc : List Int) : Px → List Int → List Int
  | .none => fun c => c.map fun x => addI x 0
  | .set nm => fun c => INF :: onL (isOf nm) sc c
  | .any => fun c => INF :: onL (fun _ => true) sc c
  | .cat a b => fun c => if (Px.cat a b).bare = true then c.map (fun x => addI x (Px.cat a b).noth) else b.run sc (a.run sc c)
  | .alt a b => fun c => if (Px.alt a b).bare = true then c.map (fun x => addI x (Px.alt a b).noth) else leastF (a.run sc c) (b.run sc c)
  | .star a => fun c => if (Px.star a).bare = true then c.map (fun x => addI x (Px.star a).noth) else oftenF (a.run sc) sc.length c c
  | .times a lo hi => fun c => if (Px.times a lo hi).bare = true then c.map (fun x => addI x (Px.times a lo hi).noth) else oftenF (a.run sc) (hi - lo) (timesF (a.run sc) lo c) (timesF (a.run sc) lo c)
  | .weight a w => fun c => if (Px.weight a w).bare = true then c.map (fun x => addI x (Px.weight a w).noth) else (a.run sc c).map fun x => addI x w
/-- Patterns that are looked at here: names of sets that there are; few times. -/
def Px.ok : Px → Bool
  | .set nm => decide (nm ∈ setsN)
  | .cat a b => a.ok && b.ok
  | .alt a b => a.ok && b.ok
  | .star a => a.ok
  | .times a lo hi => a.ok && decide (lo ≤ hi) && decide (hi < 12)
  | .weight a w => a.ok && decide (w < 1000)
  | _ => true
theorem map_good {n : Nat} {c : List Int} (h : Good n c) {w : Int} (hw : 0 ≤ w) : Good n (c.map fun x => addI x w) := ⟨by simp [h.len], fun x hx => by
  obtain ⟨y, hy, rfl⟩ := List.mem_map.1 hx
  exact addI_nn (h.nn y hy) hw⟩
theorem onL_good (f : Int → Bool) : ∀ (sc c : List Int), c.length = sc.length + 1 → (∀ x ∈ c, 0 ≤ x) → (onL f sc c).length = sc.length ∧ ∀ x ∈ onL f sc c, 0 ≤ x
  | [], c, h, hc => by cases c <;> simp [onL]
  | n :: ns, [], h, hc => by simp at h
  | n :: ns, x :: xs, h, hc => by
    obtain ⟨h1, h2⟩ := onL_good f ns xs (by simpa using h) fun y hy => hc y (List.mem_cons_of_mem _ hy)
    refine ⟨by simp [onL, h1], fun y hy => ?_⟩
    simp only [onL, List.mem_cons] at hy
    rcases hy with rfl | hy
    · split
      · exact hc x (List.mem_cons_self ..)
      · exact INF_nn
    · exact h2 y hy
theorem on_good (f : Int → Bool) {sc c : List Int} (h : Good (sc.length + 1) c) : Good (sc.length + 1) (INF :: onL f sc c) := by
  obtain ⟨h1, h2⟩ := onL_good f sc c h.len h.nn
  refine ⟨by simp [h1], fun x hx => ?_⟩
  rcases List.mem_cons.1 hx with rfl | hx
  · exact INF_nn
  · exact h2 x hx
theorem oftenF_good {n : Nat} {R : List Int → List Int} (hR : ∀ c, Good n c → Good n (R c)) : ∀ (k : Nat) (c out : List Int), Good n c → Good n out → Good n (oftenF R k c out)
  | 0, c, out, _, h => h
  | k + 1, c, out, hc, h => by
    simp only [oftenF]
    split
    · exact h
    · exact oftenF_good hR k _ _ (hR c hc) (leastF_good h (hR c hc))
theorem timesF_good {n : Nat} {R : List Int → List Int} (hR : ∀ c, Good n c → Good n (R c)) : ∀ (k : Nat) (c : List Int), Good n c → Good n (timesF R k c)
  | 0, c, h => h
  | k + 1, c, h => by
    simp only [timesF]
    split
    · exact h
    · exact timesF_good hR k _ (hR c h)
theorem Px.run_good (sc : List Int) (x : Px) : ∀ c, Good (sc.length + 1) c → Good (sc.length + 1) (x.run sc c) := by
  induction x with
  | none => exact fun c h => map_good h (Int.le_refl _)
  | set nm => exact fun c h => on_good _ h
  | any => exact fun c h => on_good _ h
  | cat a b ha hb =>
    intro c h
    simp only [Px.run]
    split
    · exact map_good h (Px.noth_nn _)
    · exact hb _ (ha c h)
  | alt a b ha hb =>
    intro c h
    simp only [Px.run]
    split
    · exact map_good h (Px.noth_nn _)
    · exact leastF_good (ha c h) (hb c h)
  | star a ha =>
    intro c h
    simp only [Px.run]
    split
    · exact map_good h (Px.noth_nn _)
    · exact oftenF_good ha _ _ _ h h
  | times a lo hi ha =>
    intro c h
    simp only [Px.run]
    split
    · exact map_good h (Px.noth_nn _)
    · exact oftenF_good ha _ _ _ (timesF_good ha _ _ h) (timesF_good ha _ _ h)
  | weight a w ha =>
    intro c h
    simp only [Px.run]
    split
    · exact map_good h (Px.noth_nn _)
    · exact map_good (ha c h) (by omega)
end Go.Proofs.YtcnbopgbmimkcaaGreat
end
