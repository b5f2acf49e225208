/- Part of the machine FM and of the proof that what it answers the model answers. -/
import Derived.Test.YtcnbopgbmimkcaaGreatFmA
import Derived.Laws.Tables
import Derived.Laws.BytesString
import Derived.Laws.MakeOwn
import Derived.Laws.BytesArg
import Derived.MapKept
import Derived.Laws.AppendOwn
set_option linter.all false
set_option linter.unusedSimpArgs false
set_option linter.unusedVariables false
set_option linter.unnecessarySimpa false
set_option linter.unusedSectionVars false
section
/- FM: structs, arrays, rows that are built. -/
set_option autoImplicit false
namespace Go.Fm

theorem putL_eq {α : Type} : ∀ (cs : List α) (n : Nat) (xs : List α), n ≤ cs.length → putL cs n xs = cs.take n ++ xs ++ cs.drop (n + xs.length)
  | cs, 0, xs, _ => by simp [putL]
  | c :: cs, n + 1, xs, h => by
    have := putL_eq cs n xs (by simpa using h)
    simp only [putL, this, List.take_succ_cons, List.cons_append]
    rw [show n + 1 + xs.length = (n + xs.length) + 1 by omega, List.drop_succ_cons]
  | [], n + 1, xs, h => by simp at h
theorem putL_length {α : Type} (cs : List α) (n : Nat) (xs : List α) (h : n + xs.length ≤ cs.length) : (putL cs n xs).length = cs.length := by
  rw [putL_eq cs n xs (by omega)]
  simp
  omega

theorem setAll_eq (off : Nat) : ∀ (xs : List Value) (k : Nat) (cells : Array Value), off + k + xs.length ≤ cells.size →
    (((xs.zipIdx k).foldl (fun cs (p : Value × Nat) => cs.setIfInBounds (off + p.2) p.1) cells).toList) = cells.toList.take (off + k) ++ xs ++ cells.toList.drop (off + k + xs.length)
  | [], k, cells, h => by simp
  | x :: xs, k, cells, h => by
    simp only [List.length_cons] at h
    simp only [List.zipIdx_cons, List.foldl_cons]
    rw [setAll_eq off xs (k + 1) (cells.setIfInBounds (off + k) x) (by simp; omega)]
    have e := list_seg_step cells.toList (off + k) x xs (by simp; omega)
    rw [show off + (k + 1) = off + k + 1 by omega]
    simpa using e

theorem setAll_arr (off : Nat) (xs cells : Array Value) (h : off + xs.size ≤ cells.size) :
    (xs.zipIdx.foldl (fun cs (p : Value × Nat) => cs.setIfInBounds (off + p.2) p.1) cells).toList = putL cells.toList off xs.toList := by
  rw [← Array.foldl_toList, Array.toList_zipIdx, setAll_eq off xs.toList 0 cells (by simpa using h), putL_eq _ _ _ (by simp; omega)]
  simp

section
variable {P : Program} {w : World} {c : Cx} {env : Nat → V} {a : Act} {op : Oper} {v : V}

theorem R.cells_inv {x : V} {v : Value} (h : R w c x v) (hx : x.cells.all isCell = true) : Rs w c x.cells v.cells.toList ∧ ∀ u ∈ v.cells.toList, u.oneCell' = true := by
  cases h with
  | agg hl hc hr =>
    rename_i cs vs
    refine ⟨Rs.of_array hl hr, ?_⟩
    intro u hu
    obtain ⟨j, hj⟩ := List.mem_iff_getElem?.1 hu
    have hs : j < vs.size := by have := (List.getElem?_eq_some_iff.1 hj).1; simpa [Value.cells] using this
    obtain ⟨x, hx⟩ : ∃ x, cs[j]? = some x := ⟨_, List.getElem?_eq_getElem (by rw [hl]; exact hs)⟩
    exact (hr j x u hx (by simpa [Value.cells] using hj)).one (hc j x hx)
  | undef => simp [V.cells, isCell] at hx
  | tup hl hr => simp [V.cells, isCell] at hx
  | junk hv =>
    have e : Value.cells v = #[v] := by cases v <;> first | rfl | (simp [Value.oneCell'] at hv)
    rw [e]
    exact ⟨Rs.cons (.junk hv) (Rs.nil w c), by intro u hu; simp at hu; subst hu; exact hv⟩
  | sl hs =>
    have hv : v.oneCell' = true := R.one (w := w) (.sl hs) rfl
    have e : Value.cells v = #[v] := by cases v <;> first | rfl | (simp [Value.oneCell'] at hv)
    rw [e]
    exact ⟨Rs.cons (.sl hs) (Rs.nil w c), by intro u hu; simp at hu; subst hu; exact hv⟩
  | pt hs =>
    have hv : v.oneCell' = true := R.one (w := w) (.pt hs) rfl
    have e : Value.cells v = #[v] := by cases v <;> first | rfl | (simp [Value.oneCell'] at hv)
    rw [e]
    exact ⟨Rs.cons (.pt hs) (Rs.nil w c), by intro u hu; simp at hu; subst hu; exact hv⟩
  | mp hs =>
    have hv : v.oneCell' = true := R.one (w := w) (.mp hs) rfl
    have e : Value.cells v = #[v] := by cases v <;> first | rfl | (simp [Value.oneCell'] at hv)
    rw [e]
    exact ⟨Rs.cons (.mp hs) (Rs.nil w c), by intro u hu; simp at hu; subst hu; exact hv⟩
  | int k n => exact ⟨Rs.cons (.int k n) (Rs.nil w c), by intro u hu; simp [Value.cells] at hu; subst hu; rfl⟩
  | bool b => exact ⟨Rs.cons (.bool b) (Rs.nil w c), by intro u hu; simp [Value.cells] at hu; subst hu; rfl⟩
  | str s => exact ⟨Rs.cons (.str s) (Rs.nil w c), by intro u hu; simp [Value.cells] at hu; subst hu; rfl⟩
  | arr b cv hf hc hs hA hx' hr => exact ⟨Rs.cons (.arr b cv hf hc hs hA hx' hr) (Rs.nil w c), by intro u hu; simp [Value.cells] at hu; subst hu; rfl⟩
  | nilsl => exact ⟨Rs.cons .nilsl (Rs.nil w c), by intro u hu; simp [Value.cells] at hu; subst hu; rfl⟩
  | z A => exact ⟨Rs.cons (.z A) (Rs.nil w c), by intro u hu; simp [Value.cells] at hu; subst hu; rfl⟩
  | nilp => exact ⟨Rs.cons .nilp (Rs.nil w c), by intro u hu; simp [Value.cells] at hu; subst hu; rfl⟩
  | ro b cv hf ha hA hx' hr => exact ⟨Rs.cons (.ro b cv hf ha hA hx' hr) (Rs.nil w c), by intro u hu; simp [Value.cells] at hu; subst hu; rfl⟩
  | map ents clock hf hA hm hl hk hr => exact ⟨Rs.cons (.map ents clock hf hA hm hl hk hr) (Rs.nil w c), by intro u hu; simp [Value.cells] at hu; subst hu; rfl⟩
  | nilmap => exact ⟨Rs.cons .nilmap (Rs.nil w c), by intro u hu; simp [Value.cells] at hu; subst hu; rfl⟩
  | fn ha hb ra rb => exact ⟨Rs.cons (.fn ha hb ra rb) (Rs.nil w c), by intro u hu; simp [Value.cells] at hu; subst hu; rfl⟩

theorem Rs.putL {cs xs : List V} {vs us : List Value} (h : Rs w c cs vs) (k : Rs w c xs us) {n : Nat} (hn : n + xs.length ≤ cs.length) : Rs w c (Fm.putL cs n xs) (Fm.putL vs n us) := by
  rw [putL_eq cs n xs (by omega), putL_eq vs n us (by have := h.1; omega), ← k.1]
  exact ((h.take n).append k).append (h.drop _)
theorem all_putL {p : V → Bool} {cs xs : List V} (h : cs.all p = true) (k : xs.all p = true) {n : Nat} (hn : n + xs.length ≤ cs.length) : (Fm.putL cs n xs).all p = true := by
  rw [putL_eq cs n xs (by omega)]
  simp only [List.all_append, Bool.and_eq_true]
  refine ⟨⟨?_, k⟩, ?_⟩
  · rw [List.all_eq_true] at h ⊢
    exact fun x hx => h x (List.mem_of_mem_take hx)
  · rw [List.all_eq_true] at h ⊢
    exact fun x hx => h x (List.mem_of_mem_drop hx)

/-- Parts of something that is built: where, how many cells; as FM has them, as the model has them. -/
def PartsR (w : World) (c : Cx) (place : Nat → Option (Nat × Nat)) : List (Nat × Nat × V) → List (Nat × Value) → Prop
  | [], [] => True
  | p :: ps, q :: qs => place q.1 = some (p.1, p.2.1) ∧ R w c p.2.2 q.2 ∧ PartsR w c place ps qs
  | _, _ => False

theorem fill_sound {place : Nat → Option (Nat × Nat)} : ∀ (ps : List (Nat × Nat × V)) (qs : List (Nat × Value)) (cs : List V) (cells : Array Value) (r : List V), PartsR w c place ps qs → Rs w c cs cells.toList → cs.all isCell = true →
    ps.foldlM (fun cs p => if p.2.2.cells.length = p.2.1 ∧ p.1 + p.2.1 ≤ cs.length ∧ p.2.2.cells.all isCell = true then some (putL cs p.1 p.2.2.cells) else none) cs = some r →
    ∃ cells', Instr.fill place cells qs = some cells' ∧ Rs w c r cells'.toList ∧ r.all isCell = true
  | [], [], cs, cells, r, _, h, ha, hf => by
    simp only [List.foldlM_nil, pure, Option.some.injEq] at hf
    subst hf
    exact ⟨cells, rfl, h, ha⟩
  | p :: ps, [], _, _, _, h, _, _, _ => h.elim
  | [], q :: qs, _, _, _, h, _, _, _ => h.elim
  | p :: ps, q :: qs, cs, cells, r, h, hc, ha, hf => by
    obtain ⟨h1, h2, h3⟩ := h
    simp only [List.foldlM_cons, bind, Option.bind_eq_some_iff] at hf
    obtain ⟨cs1, hc1, hf⟩ := hf
    split at hc1
    · rename_i hk
      obtain ⟨k1, k2, k3⟩ := hk
      cases hc1
      obtain ⟨hr, _⟩ := h2.cells_inv k3
      have hs : q.2.cells.size = p.2.1 := by have := hr.1; simp at this; omega
      have hsz : cells.size = cs.length := by have := hc.1; simp at this; omega
      have e := setAll_arr p.1 q.2.cells cells (by omega)
      have hR : Rs w c (putL cs p.1 p.2.2.cells) ((q.2.cells.zipIdx.foldl (fun cs (p1 : Value × Nat) => cs.setIfInBounds (p.1 + p1.2) p1.1) cells)).toList := by
        rw [e]
        exact hc.putL hr (by omega)
      obtain ⟨cells', g1, g2, g3⟩ := fill_sound ps qs _ _ r h3 hR (all_putL ha k3 (by omega)) hf
      refine ⟨cells', ?_, g2, g3⟩
      simp only [Instr.fill, h1]
      rw [if_neg (by simp [hs]; omega)]
      exact g1
    · cases hc1

theorem foldlM_map {α β γ : Type} (f : β → γ → Option β) (g : α → γ) : ∀ (l : List α) (b : β), l.foldlM (fun b x => f b (g x)) b = (l.map g).foldlM f b
  | [], b => rfl
  | x :: l, b => by
    simp only [List.foldlM_cons, List.map_cons]
    congr 1
    funext b'
    exact foldlM_map f g l b'

theorem parts_struct {pl : List (Nat × Nat)} (hE : EnvR w c env a) : ∀ (l : List (Nat × Operand)) (ps : List (Nat × Nat × Opd)), mapO (fun p => (cOpd p.2).bind fun x => (pl[p.1]?).map fun q => (q.1, q.2, x)) l = some ps →
    PartsR w c (pl.toArray[·]?) (ps.map fun p => (p.1, p.2.1, opd env p.2.2)) (l.map fun p => (p.1, a.eval p.2))
  | [], ps, h => by cases h; trivial
  | p :: l, ps, h => by
    simp only [mapO, Option.bind_eq_some_iff, Option.map_eq_some_iff] at h
    obtain ⟨y, ⟨x, hx, q, hq, rfl⟩, ys, hys, he⟩ := h
    cases he
    exact ⟨by simpa using hq, opd_sound hE hx, parts_struct hE l ys hys⟩

theorem parts_arr {sz : Nat} (hE : EnvR w c env a) : ∀ (l : List (Nat × Operand)) (ps : List (Nat × Nat × Opd)), mapO (fun p => (cOpd p.2).map fun x => (p.1 * sz, sz, x)) l = some ps →
    PartsR w c (fun i => some (i * sz, sz)) (ps.map fun p => (p.1, p.2.1, opd env p.2.2)) (l.map fun p => (p.1, a.eval p.2))
  | [], ps, h => by cases h; trivial
  | p :: l, ps, h => by
    simp only [mapO, Option.bind_eq_some_iff, Option.map_eq_some_iff] at h
    obtain ⟨y, ⟨x, hx, rfl⟩, ys, hys, he⟩ := h
    cases he
    exact ⟨rfl, opd_sound hE hx, parts_arr hE l ys hys⟩

theorem p_bld {t : TypeId} {ps : Array (Nat × Operand)} (hop : op.op = .build t ps) {o : COp} (hc : cOp P (.build t ps) = some o) (hE : EnvR w c env a) (hv : pureOp (opd env) o = some v) : Pure P w c a op v := by
  simp only [cOp] at hc
  obtain ⟨zr, hz, hc⟩ := Option.bind_eq_some_iff.1 hc
  obtain ⟨it, zv, hit, hzv, _, hzR, hza, _⟩ := zero_sound (w := w) (c := c) hz
  have he : execOp a.eval op = (do pure (Next.value (← Instr.build t (ps.map fun (i, x) => (i, a.eval x))))) := by simp [execOp, hop]
  have hpl : (ps.map fun (x : Nat × Operand) => (x.1, a.eval x.2)).toList = ps.toList.map fun p => (p.1, a.eval p.2) := by simp
  split at hc
  · rename_i fs hu
    obtain ⟨pl, hp, hc⟩ := Option.bind_eq_some_iff.1 hc
    obtain ⟨qs, hq, rfl⟩ := Option.map_eq_some_iff.1 hc
    simp only [pureOp] at hv
    obtain ⟨r, hr, rfl⟩ := Option.map_eq_some_iff.1 hv
    have hr := (foldlM_map (fun cs (p : Nat × Nat × V) => if p.2.2.cells.length = p.2.1 ∧ p.1 + p.2.1 ≤ cs.length ∧ p.2.2.cells.all isCell = true then some (putL cs p.1 p.2.2.cells) else none) (fun (p : Nat × Nat × Opd) => (p.1, p.2.1, opd env p.2.2)) qs zr.cells).symm.trans hr
    obtain ⟨cells', g1, g2, g3⟩ := fill_sound _ _ _ _ _ (parts_struct hE ps.toList qs hq) hzR hza hr
    refine Pure.mk he (run_build w t _ cells' ?_) ?_
    · unfold Program.built
      rw [hpl]
      simp only [hit, show P.underlying t = some (.struct fs) from hu, hzv, hp]
      exact g1
    · have := R.agg_mk g2 (allCell_get g3)
      simpa using this
  · rename_i n e hu
    obtain ⟨ie, hie, hc⟩ := Option.bind_eq_some_iff.1 hc
    obtain ⟨qs, hq, rfl⟩ := Option.map_eq_some_iff.1 hc
    simp only [pureOp] at hv
    obtain ⟨r, hr, rfl⟩ := Option.map_eq_some_iff.1 hv
    have hr := (foldlM_map (fun cs (p : Nat × Nat × V) => if p.2.2.cells.length = p.2.1 ∧ p.1 + p.2.1 ≤ cs.length ∧ p.2.2.cells.all isCell = true then some (putL cs p.1 p.2.2.cells) else none) (fun (p : Nat × Nat × Opd) => (p.1, p.2.1, opd env p.2.2)) qs zr.cells).symm.trans hr
    obtain ⟨cells', g1, g2, g3⟩ := fill_sound _ _ _ _ _ (parts_arr hE ps.toList qs hq) hzR hza hr
    refine Pure.mk he (run_build w t _ cells' ?_) ?_
    · unfold Program.built
      rw [hpl]
      simp only [hit, show P.underlying t = some (.array n e) from hu, hzv, show P.info? e = some ie from hie]
      exact g1
    · have := R.agg_mk g2 (allCell_get g3)
      simpa using this
  · cases hc
end
end Go.Fm
end

section
/- FM: whatever looks at no heap comes to what the model's operation comes to. -/
set_option autoImplicit false
namespace Go.Fm

section
variable {P : Program} {w : World} {c : Cx} {env : Nat → V} {a : Act} {op : Oper} {v : V}

theorem opt_some {α : Type} {b : Bool} {x y : α} (h : opt b x = some y) : b = true ∧ x = y := by
  unfold opt at h
  split at h
  · exact ⟨by assumption, by simpa using h⟩
  · cases h
theorem cOpt_sound {x : Option Operand} {y : Option Opd} (h : cOpt x = some y) : OptOpd x y := by
  cases x with
  | none => cases h; exact .inl ⟨rfl, rfl⟩
  | some x =>
    obtain ⟨y', hy, rfl⟩ := Option.map_eq_some_iff.1 h
    exact .inr ⟨x, y', rfl, rfl, hy⟩

theorem mapO_one {α β : Type} {f : α → Option β} {l : List α} {y : β} (h : mapO f l = some [y]) : ∃ x, l = [x] ∧ f x = some y := by
  cases l with
  | nil => cases h
  | cons x l =>
    simp only [mapO, Option.bind_eq_some_iff] at h
    obtain ⟨y', hy, ys, hys, he⟩ := h
    cases l with
    | nil => cases hys; cases he; exact ⟨x, rfl, hy⟩
    | cons z l =>
      simp only [mapO, Option.bind_eq_some_iff] at hys
      obtain ⟨_, _, _, _, he'⟩ := hys
      cases he'
      cases he

theorem pure_call {cl : Call} {o : COp} (hc : cCall P cl = some o) (hop : op.op = .call cl) (hE : EnvR w c env a) (hv : pureOp (opd env) o = some v) : Pure P w c a op v := by
  obtain ⟨callee, args, ts⟩ := cl
  simp only [cCall] at hc
  obtain ⟨xs, hxs, hc⟩ := Option.bind_eq_some_iff.1 hc
  cases callee with
  | invoke r m => cases hc
  | value x =>
    cases x with
    | tmp t => cases hc; cases hv
    | func f => cases hc; cases hv
    | const u => cases hc
    | global g => cases hc
  | builtin b =>
    cases b <;> try (cases hc; done)
    case len =>
      dsimp only at hc
      split at hc <;> try (cases hc; done)
      · rename_i x hu
        cases hc
        obtain ⟨t, h0, ht⟩ := Option.bind_eq_some_iff.1 hu
        obtain ⟨y, hy, hx⟩ := mapO_one hxs
        exact p_lens hop h0 ht hy hx hE hv
      · rename_i e x hu
        cases hc
        obtain ⟨t, h0, ht⟩ := Option.bind_eq_some_iff.1 hu
        obtain ⟨y, hy, hx⟩ := mapO_one hxs
        exact p_len hop h0 ht hy hx hE hv
      · rename_i n e x hu
        cases hc
        obtain ⟨t, h0, ht⟩ := Option.bind_eq_some_iff.1 hu
        obtain ⟨y, hy, hx⟩ := mapO_one hxs
        cases hv
        exact p_lenarr hop h0 ht hy
      · cases hc; cases hv
    case cap =>
      dsimp only at hc
      split at hc <;> try (cases hc; done)
      rename_i e x hu
      cases hc
      obtain ⟨t, h0, ht⟩ := Option.bind_eq_some_iff.1 hu
      obtain ⟨y, hy, hx⟩ := mapO_one hxs
      exact p_cap hop h0 ht hy hx hE hv
    case max => cases hc; exact p_max hop hxs hE hv
    case min => cases hc; exact p_min hop hxs hE hv
    case append =>
      dsimp only at hc
      split at hc <;> try (cases hc; done)
      all_goals
        obtain ⟨i, _, hc⟩ := Option.bind_eq_some_iff.1 hc
        first
          | (obtain ⟨_, rfl⟩ := opt_some hc
             cases hv
             done)
          | (obtain ⟨_, _, hc⟩ := Option.bind_eq_some_iff.1 hc
             obtain ⟨_, rfl⟩ := opt_some hc
             cases hv)
    case copy =>
      dsimp only at hc
      split at hc <;> try (cases hc; done)
      obtain ⟨i, _, hc⟩ := Option.bind_eq_some_iff.1 hc
      obtain ⟨_, rfl⟩ := opt_some hc
      cases hv

theorem pure_sound {g : Op} {o : COp} (hc : cOp P g = some o) (hop : op.op = g) (hE : EnvR w c env a) (hv : pureOp (opd env) o = some v) : Pure P w c a op v := by
  cases g <;> try (cases hc; done)
  case move x => obtain ⟨y, hy, rfl⟩ := Option.map_eq_some_iff.1 hc; cases hv; exact p_move (.inl hop) hy hE
  case assign x => obtain ⟨y, hy, rfl⟩ := Option.map_eq_some_iff.1 hc; cases hv; exact p_move (.inr hop) hy hE
  case pick x y z =>
    simp only [cOp, Option.bind_eq_some_iff, Option.map_eq_some_iff] at hc
    obtain ⟨x', hx, y', hy, z', hz, rfl⟩ := hc
    exact p_pick hop hx hy hz hE hv
  case alloc e => obtain ⟨zr, _, rfl⟩ := Option.map_eq_some_iff.1 hc; cases hv
  case box t x => obtain ⟨y, _, rfl⟩ := Option.map_eq_some_iff.1 hc; cases hv
  case build t ps => exact p_bld hop hc hE hv
  case buildSlice t n ps =>
    simp only [cOp] at hc
    split at hc
    · obtain ⟨i, _, hc⟩ := Option.bind_eq_some_iff.1 hc
      obtain ⟨zr, _, hc⟩ := Option.bind_eq_some_iff.1 hc
      obtain ⟨qs, _, hc⟩ := Option.bind_eq_some_iff.1 hc
      obtain ⟨_, rfl⟩ := opt_some hc
      cases hv
    · cases hc
  case load t x =>
    simp only [cOp, Option.bind_eq_some_iff, Option.map_eq_some_iff] at hc
    obtain ⟨y, _, i, _, ag, _, rfl⟩ := hc
    cases hv
  case store t x y =>
    simp only [cOp, Option.bind_eq_some_iff, Option.map_eq_some_iff] at hc
    obtain ⟨x', _, y', _, i, _, rfl⟩ := hc
    cases hv
  case nilCheck x => obtain ⟨y, hy, rfl⟩ := Option.map_eq_some_iff.1 hc; exact p_nilchk hop hy hE hv
  case binOp b t x y yt => exact p_bin hop hc hE hv
  case unOp u t x => obtain ⟨y, hy, rfl⟩ := Option.map_eq_some_iff.1 hc; exact p_un hop hy hE hv
  case convert s d x =>
    simp only [cOp] at hc
    obtain ⟨y, hy, hc⟩ := Option.bind_eq_some_iff.1 hc
    split at hc
    · rename_i k k' hs hd
      cases hc
      exact p_conv hop hy hs hd hE hv
    · split at hc
      · cases hc; cases hv
      · cases hc
    · cases hc
  case makeFunc f xs ys =>
    cases f <;> try (cases hc; done)
    simp only [cOp] at hc
    obtain ⟨xs', hx, hc⟩ := Option.bind_eq_some_iff.1 hc
    obtain ⟨ys', hy, rfl⟩ := Option.map_eq_some_iff.1 hc
    exact p_mkf hop hx hy hE hv
  case makeMap t r =>
    cases r with
    | none => cases hc; cases hv
    | some x => cases hc
  case makeSlice t l k =>
    simp only [cOp] at hc
    split at hc
    · obtain ⟨i, _, hc⟩ := Option.bind_eq_some_iff.1 hc
      obtain ⟨zr, _, hc⟩ := Option.bind_eq_some_iff.1 hc
      obtain ⟨l', _, hc⟩ := Option.bind_eq_some_iff.1 hc
      obtain ⟨k', _, hc⟩ := Option.bind_eq_some_iff.1 hc
      obtain ⟨_, rfl⟩ := opt_some hc
      cases hv
    · cases hc
  case slice t x lo hi mx =>
    cases mx with
    | none =>
      simp only [cOp] at hc
      obtain ⟨x', hx, hc⟩ := Option.bind_eq_some_iff.1 hc
      obtain ⟨lo', hlo, hc⟩ := Option.bind_eq_some_iff.1 hc
      obtain ⟨hi', hhi, hc⟩ := Option.bind_eq_some_iff.1 hc
      split at hc
      · rename_i hu
        cases hc
        exact p_slcs hop hx (cOpt_sound hlo) (cOpt_sound hhi) hu hE hv
      · rename_i e hu
        obtain ⟨i, hi2, hc⟩ := Option.bind_eq_some_iff.1 hc
        obtain ⟨_, rfl⟩ := opt_some hc
        exact p_slc hop hx (cOpt_sound hlo) (cOpt_sound hhi) hu hi2 hE hv
      · cases hc
    | some m =>
      unfold cOp at hc
      split at hc <;> try (cases hc; done)
      all_goals (rename_i heq; cases heq)
      split at hc
      · rename_i e hu
        obtain ⟨i, hi2, hc⟩ := Option.bind_eq_some_iff.1 hc
        obtain ⟨y, hy, rfl⟩ := Option.map_eq_some_iff.1 hc
        exact p_slz hop hy hu hi2 hE hv
      · cases hc
  case fieldAddr s x fi =>
    simp only [cOp] at hc
    split at hc
    · rename_i fs hu
      obtain ⟨x', hx, hc⟩ := Option.bind_eq_some_iff.1 hc
      obtain ⟨f, hf, hc⟩ := Option.bind_eq_some_iff.1 hc
      obtain ⟨i, hi, hc⟩ := Option.bind_eq_some_iff.1 hc
      obtain ⟨h0, rfl⟩ := opt_some hc
      exact p_faddr hop hx hu hf hi h0 hE hv
    · cases hc
  case field s x fi =>
    simp only [cOp] at hc
    split at hc
    · rename_i fs hu
      obtain ⟨x', hx, hc⟩ := Option.bind_eq_some_iff.1 hc
      obtain ⟨f, hf, hc⟩ := Option.bind_eq_some_iff.1 hc
      obtain ⟨i, hi, hc⟩ := Option.bind_eq_some_iff.1 hc
      obtain ⟨ag, hag, rfl⟩ := Option.map_eq_some_iff.1 hc
      exact p_fld hop hx hu hf hi hag hE hv
    · cases hc
  case indexAddr t x ix =>
    simp only [cOp] at hc
    obtain ⟨x', hx, hc⟩ := Option.bind_eq_some_iff.1 hc
    obtain ⟨ix', hix, hc⟩ := Option.bind_eq_some_iff.1 hc
    split at hc
    · rename_i e hu
      obtain ⟨i, hi, hc⟩ := Option.bind_eq_some_iff.1 hc
      obtain ⟨h0, rfl⟩ := opt_some hc
      exact p_iaddr hop hx hix hu hi hE hv
    · rename_i n e hu
      obtain ⟨i, hi, hc⟩ := Option.bind_eq_some_iff.1 hc
      obtain ⟨h0, rfl⟩ := opt_some hc
      exact p_aaddr hop hx hix hu hi hE hv
    · cases hc
  case index t x ix =>
    simp only [cOp] at hc
    obtain ⟨x', hx, hc⟩ := Option.bind_eq_some_iff.1 hc
    obtain ⟨ix', hix, hc⟩ := Option.bind_eq_some_iff.1 hc
    split at hc
    · rename_i hu
      cases hc
      exact p_ixs hop hx hix hu hE hv
    · rename_i n e hu
      obtain ⟨i, hi, hc⟩ := Option.bind_eq_some_iff.1 hc
      obtain ⟨ag, hag, rfl⟩ := Option.map_eq_some_iff.1 hc
      exact p_ixa hop hx hix hu hi hag hE hv
    · cases hc
  case lookup t x k ok =>
    simp only [cOp] at hc
    split at hc
    · simp only [Option.bind_eq_some_iff, Option.map_eq_some_iff] at hc
      obtain ⟨_, _, _, _, _, _, _, _, rfl⟩ := hc
      cases hv
    · cases hc
  case mapUpdate t m k x =>
    simp only [cOp] at hc
    split at hc
    · simp only [Option.bind_eq_some_iff, Option.map_eq_some_iff] at hc
      obtain ⟨_, _, _, _, _, _, _, _, rfl⟩ := hc
      cases hv
    · cases hc
  case extract t n => obtain ⟨y, hy, rfl⟩ := Option.map_eq_some_iff.1 hc; exact p_ext hop hy hE hv
  case call cl => exact pure_call hc hop hE hv
end
end Go.Fm
end

section
/- FM: what is read of a frame's heap. -/
set_option autoImplicit false
namespace Go.Fm

section
variable {P : Program} {w : World} {c : Cx} {H : HeapF}

theorem Heaps.loc (h : Heaps w c H) {id : Nat} {th : Thing} (hi : H id = some th) : ∃ l, c.μ id = some l ∧ Lies w c l th := h.at_ id th hi

/-- The cells from an address on. -/
theorem cellsAt_sound (h : Heaps w c H) {v : V} {u : Value} (hR : R w c v u) {cs : List V} (hc : cellsAt H v = some cs) :
    ∃ a : Addr, u = .pointer (some a) ∧ (cs ≠ [] → a.spot = none) ∧ ∀ (j : Nat) (x : V), cs[j]? = some x → isCell x = true ∧ ∃ cv, w.cell? ⟨a.block, a.off + j, none⟩ = some cv ∧ R w c x cv := by
  unfold cellsAt at hc
  split at hc
  · rename_i id idx sub
    cases hR with
    | pt hp =>
      obtain ⟨hA, a, rfl, hl⟩ := hp
      split at hc
      · rename_i cs0 hth
        split at hc
        · rename_i h0
          cases hc
          subst h0
          obtain ⟨l, hm, hK, C, t, hC, hsz, hcell⟩ := h.loc hth
          refine ⟨a, rfl, fun _ => by rw [hl l hm], fun j x hj => ?_⟩
          rw [List.getElem?_drop] at hj
          obtain ⟨h1, cv, h2, h3⟩ := hcell _ _ hj
          refine ⟨h1, cv, ?_, h3⟩
          rw [hl l hm]
          simp only [World.cell?, hC, Option.isSome_none, Bool.false_eq_true, if_false]
          rw [← h2]
          congr 1
          omega
        · cases hc
      · rename_i sz wr cl es hth
        obtain ⟨e, he, rfl⟩ := Option.map_eq_some_iff.1 hc
        obtain ⟨l, hm, hsz, hlen, hall, hrow⟩ := h.loc hth
        have hpos : 0 < l.K := by have := (List.getElem?_eq_some_iff.1 he).1; omega
        obtain ⟨C, t, hC, hb, hcell⟩ := hrow hpos
        refine ⟨a, rfl, fun _ => by rw [hl l hm], fun j x hj => ?_⟩
        rw [List.getElem?_drop] at hj
        obtain ⟨h1, cv, h2, h3⟩ := hcell _ _ _ _ he hj
        refine ⟨h1, cv, ?_, by cases cl <;> first | exact h3.up | exact h3⟩
        rw [hl l hm]
        simp only [World.cell?, hC, Option.isSome_none, Bool.false_eq_true, if_false]
        rw [← h2, hsz]
        congr 1
        omega
      · cases hc
  · cases hc
    cases hR with
    | ro a cv hf ha hA hx hr => exact ⟨a, rfl, fun _ => ha, fun j x hj => ⟨(hx j x hj).1, cv j, (hx j x hj).2, (hr j x hj).up⟩⟩
  · cases hc

theorem ptr_add_eq (a : Addr) (ha : a.spot = none) (j : Nat) : a.add j = ⟨a.block, a.off + j, none⟩ := add_spot ha j

/-- A variable is read. -/
theorem load_sound (h : Heaps w c H) {v : V} {u : Value} (hR : R w c v u) {cs : List V} (hc : cellsAt H v = some cs) {t : TypeId} {i : TypeInfo} (hi : P.info? t = some i) {ag : Bool} (hag : aggT P t = some ag) {x : V}
    (hx : takeN ag i.size cs = some x) : ∃ v', (Instr.loadAt t u).run P w = .ok v' w ∧ R w c x v' := by
  obtain ⟨a, rfl, hsp, hcell⟩ := cellsAt_sound h hR hc
  have hcs : P.cellsOf t = i.size := by simp [Program.cellsOf, hi]
  unfold takeN at hx
  cases ag with
  | true =>
    simp only [if_true] at hx
    split at hx
    · rename_i hl
      cases hx
      have hex : ∀ j, j < i.size → ∃ cv, w.cell? ⟨a.block, a.off + j, none⟩ = some cv ∧ ∀ x, cs[j]? = some x → R w c x cv := by
        intro j hj
        have hj' : cs[j]? = some cs[j] := List.getElem?_eq_getElem (by omega)
        obtain ⟨_, cv, h1, h2⟩ := hcell _ _ hj'
        exact ⟨cv, h1, fun x hx => by rw [hj'] at hx; cases hx; exact h2⟩
      let f : Nat → Value := fun j => if hj : j < i.size then (hex j hj).choose else undef
      have hf : ∀ j, j < i.size → w.cell? (a.add j) = some (f j) := by
        intro j hj
        have hne : cs ≠ [] := by intro h0; simp [h0] at hl; omega
        rw [ptr_add_eq a (hsp hne) j]
        simp only [f, hj, dif_pos]
        exact (hex j hj).choose_spec.1
      refine ⟨.agg ((List.range i.size).map f).toArray, ?_, ?_⟩
      · simp [Instr.loadAt, Instr.sureAddr, loadVar, isAgg_run hag, run_sizeOf w hi, hcs, run_loadCells w a i.size f hf]
      · refine R.agg_mk ⟨by simp; omega, fun j x v hj hv => ?_⟩ (fun j x hj => ?_)
        · rw [List.getElem?_take] at hj
          split at hj
          · rename_i hlt
            have : v = f j := by
              rw [List.getElem?_map, List.getElem?_range hlt] at hv
              simpa using hv.symm
            rw [this]
            simp only [f, hlt, dif_pos]
            exact (hex j hlt).choose_spec.2 x hj
          · cases hj
        · rw [List.getElem?_take] at hj
          split at hj
          · exact (hcell _ _ hj).1
          · cases hj
    · cases hx
  | false =>
    simp only [Bool.false_eq_true, if_false] at hx
    have h0 : cs[0]? = some x := by rw [← List.head?_eq_getElem?]; exact hx
    have hne : cs ≠ [] := by intro h; simp [h] at h0
    obtain ⟨_, cv, h1, h2⟩ := hcell _ _ h0
    have h1' : w.cell? a = some cv := by
      rw [← h1]
      obtain ⟨b, o, s⟩ := a
      have := hsp hne
      cases this
      rfl
    exact ⟨cv, by simp [Instr.loadAt, Instr.sureAddr, loadVar, isAgg_run hag, h1'], h2⟩

/-! ### What is laid open -/
/-- A row lies where a slice says. -/
theorem row_cells (h : Heaps w c H) {id sz sz' off len : Nat} {wr cl : Bool} {es : List (List V)} (hi : H id = some (.row sz wr cl es)) {u : Value} (hR : R w c (.sl id sz' off len) u) (hol : off + len ≤ es.length) :
    ∃ l A cap, c.μ id = some l ∧ u = .slice A len cap ∧ len ≤ cap ∧ l.sz = sz ∧ sz' = sz ∧ off + cap = l.K ∧ (0 < cap → A = some ⟨l.b, l.o + off * sz, none⟩) ∧ (∀ (i : Nat) (e : List V), es[i]? = some e → e.length = sz) ∧
      ∀ (i : Nat) (e : List V) (j : Nat) (x : V), ((es.drop off).take len)[i]? = some e → e[j]? = some x → isCell x = true ∧ ∃ cv, w.cell? ⟨l.b, l.o + off * sz + i * sz + j, none⟩ = some cv ∧ R w (if cl then c.bare else c) x cv := by
  cases hR with
  | sl hs =>
    obtain ⟨hA, A, cap, rfl, hcap, hne, hl⟩ := hs
    obtain ⟨l, hm, hsz, hlen, hall, hrow⟩ := h.loc hi
    obtain ⟨e1, e2, e3⟩ := hl l hm
    refine ⟨l, A, cap, hm, rfl, hcap, hsz, by rw [← e1, hsz], e2, fun hp => by rw [e3 hp, hsz], hall, fun i e j x hie hj => ?_⟩
    rw [List.getElem?_take] at hie
    split at hie
    · rename_i hlt
      rw [List.getElem?_drop] at hie
      have hpos : 0 < l.K := by have := (List.getElem?_eq_some_iff.1 hie).1; omega
      obtain ⟨C, t, hC, hb, hcell⟩ := hrow hpos
      obtain ⟨h1, cv, h2, h3⟩ := hcell _ _ _ _ hie hj
      refine ⟨h1, cv, ?_, h3⟩
      simp only [World.cell?, hC, Option.isSome_none, Bool.false_eq_true, if_false]
      rw [← h2]
      congr 1
      rw [Nat.add_mul]
      omega
    · cases hie
end
end Go.Fm
end

section
/- FM: what is laid open of a frame's heap is in memory what it was. -/
set_option autoImplicit false
namespace Go.Fm

theorem mapO_len {α β : Type} {f : α → Option β} : ∀ {xs : List α} {ys : List β}, mapO f xs = some ys → ys.length = xs.length
  | [], ys, h => by cases h; rfl
  | x :: xs, ys, h => by
    simp only [mapO, Option.bind_eq_some_iff] at h
    obtain ⟨y, _, ys', h', he⟩ := h
    cases he
    simp [mapO_len h']
theorem mapO_get {α β : Type} {f : α → Option β} : ∀ {xs : List α} {ys : List β}, mapO f xs = some ys → ∀ (j : Nat) (y : β), ys[j]? = some y → ∃ x, xs[j]? = some x ∧ f x = some y
  | [], ys, h, j, y, hj => by cases h; simp at hj
  | x :: xs, ys, h, j, y, hj => by
    simp only [mapO, Option.bind_eq_some_iff] at h
    obtain ⟨y', hy, ys', h', he⟩ := h
    cases he
    cases j with
    | zero => simp at hj; subst hj; exact ⟨x, rfl, hy⟩
    | succ j => simp at hj; obtain ⟨x', h1, h2⟩ := mapO_get h' j y hj; exact ⟨x', by simpa using h1, h2⟩

theorem dr_cell {H : HeapF} {fl : Fl} {d : Nat} {v v' : V} (h : dr H fl d v = some v') (hc : isCell v = true) : isCell v' = true := by
  cases d with
  | zero => cases h
  | succ d =>
    cases v <;> simp only [dr] at h <;> try (first | (cases h; done) | (cases h; exact hc; done))
    case sl id sz off len =>
      split at h
      · split at h
        · obtain ⟨_, _, rfl⟩ := Option.map_eq_some_iff.1 h; rfl
        · cases h
      · cases h
    case pt id idx sub =>
      split at h
      · split at h
        · obtain ⟨_, _, rfl⟩ := Option.map_eq_some_iff.1 h; rfl
        · cases h
      · cases h
    case mp id =>
      split at h
      · cases h; rfl
      · cases h
    case arr f sz es => cases f <;> simp only [Option.some.injEq, reduceCtorEq] at h <;> subst h <;> rfl
    case map f es => cases f <;> simp only [Option.some.injEq, reduceCtorEq] at h <;> subst h <;> rfl
    case fn f a b =>
      obtain ⟨_, _, h⟩ := Option.bind_eq_some_iff.1 h
      obtain ⟨_, _, rfl⟩ := Option.map_eq_some_iff.1 h
      rfl
    all_goals simp [isCell] at hc

section
variable {w : World} {c c' : Cx} {H : HeapF} {fl : Fl}

theorem Ext.bares {c c' : Cx} (hS : ∀ b, c.Sf b → c'.Sf b) (hO : ∀ b, c.So b → c'.So b) : Ext c.bare c'.bare := ⟨fun _ h => h, fun _ _ h => h.elim, hS, hO⟩

/-- What may be written and is laid open is at rest in the other view. -/
def Opened (c c' : Cx) (H : HeapF) (fl : Fl) (ids : List Nat) : Prop :=
  ∀ id th l, H id = some th → c.μ id = some l → th.open_ = true → 0 < l.K → (fl = .old ∨ (id ∈ ids ∧ ∀ cs, th ≠ .box cs)) → c'.has fl l.b

theorem Opened.mono {ids ids' : List Nat} (h : Opened c c' H fl ids) (hs : ∀ i, i ∈ ids' → i ∈ ids) : Opened c c' H fl ids' :=
  fun id th l h1 h2 h3 h4 h5 => h id th l h1 h2 h3 h4 (h5.imp (fun x => x) (fun x => ⟨hs id x.1, x.2⟩))

theorem dr_sound (h : Heaps w c H) (hf : fl ≠ .own) (hS : ∀ b, c.Sf b → c'.Sf b) (hO : ∀ b, c.So b → c'.So b) :
    ∀ (d : Nat) (v v' : V) (u : Value), R w c v u → dr H fl d v = some v' → Opened c c' H fl (refs H d v) → R w c'.bare v' u := by
  intro d
  induction d with
  | zero => intro v v' u _ hd; cases hd
  | succ d ih =>
    have ihL : ∀ (xs ys : List V) (us : List Value), Rs w c xs us → mapO (dr H fl d) xs = some ys → Opened c c' H fl (xs.flatMap (refs H d)) → Rs w c'.bare ys us := by
      intro xs ys us hR hm hop
      refine ⟨by rw [mapO_len hm]; exact hR.1, fun j y u hy hu => ?_⟩
      obtain ⟨x, hx, hd⟩ := mapO_get hm j y hy
      exact ih x y u (hR.2 j x u hx hu) hd (hop.mono fun i hi => List.mem_flatMap.2 ⟨x, List.mem_of_getElem? hx, hi⟩)
    intro v v' u hR hd hop
    cases v <;> simp only [dr] at hd
    case undef => cases hd; cases hR; exact .undef
    case junk => cases hd; cases hR with | junk hj => exact .junk hj
    case int k n => cases hd; cases hR; exact .int _ _
    case bool b => cases hd; cases hR; exact .bool _
    case str s => cases hd; cases hR; exact .str _
    case nilsl => cases hd; cases hR; exact .nilsl
    case z => cases hd; cases hR; exact .z _
    case nilp => cases hd; cases hR; exact .nilp
    case nilmap => cases hd; cases hR; exact .nilmap
    case rw cs => cases hd
    case arr f sz es =>
      have : v' = .arr f sz es := by cases f <;> simp only [Option.some.injEq, reduceCtorEq] at hd <;> exact hd.symm
      subst this
      cases hR with
      | arr a cv hf' hc hs hA hx hr =>
        refine .arr a cv hf' hc hs (fun hn => ?_) hx (fun i e j x h1 h2 => (hr i e j x h1 h2).ext (Ext.bares hS hO) (Keep.refl _ _))
        obtain ⟨h1, h2, h3⟩ := hA hn
        refine ⟨h1, h2, ?_⟩
        cases f with
        | own => exact h3
        | fresh => exact hS _ h3
        | old => exact hO _ h3
    case ro f cs =>
      cases hd
      cases hR with
      | ro a cv hf' ha hA hx hr =>
        refine .ro a cv hf' ha (fun hn => ?_) hx (fun j x h1 => (hr j x h1).ext (Ext.bares hS hO) (Keep.refl _ _))
        have := hA hn
        cases f with
        | own => exact this
        | fresh => exact hS _ this
        | old => exact hO _ this
    case map f es =>
      have : v' = .map f es := by cases f <;> simp only [Option.some.injEq, reduceCtorEq] at hd <;> exact hd.symm
      subst this
      cases hR with
      | map ents clock hf' hA hm hl hk hr =>
        refine .map ents clock hf' ?_ hm hl (fun i k x e h1 h2 => (hk i k x e h1 h2).ext (Ext.bares hS hO) (Keep.refl _ _)) (fun i k x e h1 h2 => (hr i k x e h1 h2).ext (Ext.bares hS hO) (Keep.refl _ _))
        cases f with
        | own => exact hA
        | fresh => exact hS _ hA
        | old => exact hO _ hA
    case sl id sz off len =>
      split at hd
      · rename_i sz1 wr cl es hth
        split at hd
        · rename_i hol
          obtain ⟨es2, he2, rfl⟩ := Option.map_eq_some_iff.1 hd
          obtain ⟨l, A, cap, hm, rfl, hcap, hsz, _, hK, hA, hall, hcell⟩ := row_cells h hth hR hol
          have hlen1 : ((es.drop off).take len).length = len := by simp; omega
          have hl2 : es2.length = len := by
            cases cl with
            | true => cases he2; exact hlen1
            | false => rw [mapO_len he2]; exact hlen1
          have hidr : id ∈ refs H (d + 1) (.sl id sz off len) := by
            simp only [refs, hth]
            cases cl <;> simp
          have hhas : es2 ≠ [] → c'.has (if wr = true then fl else .fresh) l.b := by
            intro hne
            have hp : 0 < len := by
              rcases Nat.eq_zero_or_pos len with h0 | h0
              · exact absurd (List.eq_nil_of_length_eq_zero (by omega)) hne
              · exact h0
            cases wr with
            | true => exact hop id _ l hth hm rfl (by omega) (.inr ⟨hidr, fun _ => Thing.noConfusion⟩)
            | false => exact hS _ (h.rest id _ l hth hm rfl (by omega))
          have hsz2 : ∀ (i : Nat) (e : List V), es2[i]? = some e → e.length = sz1 := by
            intro i e hi
            have sub : ∀ e0, ((es.drop off).take len)[i]? = some e0 → e0.length = sz1 := by
              intro e0 h0
              rw [List.getElem?_take] at h0
              split at h0
              · rw [List.getElem?_drop] at h0; exact hall _ _ h0
              · cases h0
            cases cl with
            | true => cases he2; exact sub e hi
            | false =>
              obtain ⟨e0, h0, h1⟩ := mapO_get he2 i e hi
              rw [mapO_len h1]
              exact sub e0 h0
          have hx2 : ∀ (i : Nat) (e : List V) (j : Nat) (x : V), es2[i]? = some e → e[j]? = some x → isCell x = true ∧ ∃ cv, w.cell? ⟨l.b, l.o + off * sz1 + i * sz1 + j, none⟩ = some cv ∧ R w c'.bare x cv := by
            intro i e j x hi hj
            cases cl with
            | true =>
              cases he2
              obtain ⟨h1, cv, h2, h3⟩ := hcell i e j x hi hj
              exact ⟨h1, cv, h2, h3.ext (Ext.bares hS hO) (Keep.refl _ _)⟩
            | false =>
              obtain ⟨e0, h0, h1⟩ := mapO_get he2 i e hi
              obtain ⟨x0, g0, g1⟩ := mapO_get h1 j x hj
              obtain ⟨k1, cv, k2, k3⟩ := hcell i e0 j x0 h0 g0
              refine ⟨dr_cell g1 k1, cv, k2, ih x0 x cv k3 g1 (hop.mono fun q hq => ?_)⟩
              simp only [refs, hth]
              refine List.mem_cons_of_mem _ (List.mem_flatMap.2 ⟨e0, ?_, List.mem_flatMap.2 ⟨x0, List.mem_of_getElem? g0, hq⟩⟩)
              have := List.mem_of_getElem? h0
              exact List.mem_of_mem_drop (List.mem_of_mem_take this)
          have hcapl : es2.length ≤ cap := by omega
          have := R.arr (w := w) (c := c'.bare) (f := if wr = true then fl else .fresh) (sz := sz1) (es := es2) (A := A) (cap := cap) ⟨l.b, l.o + off * sz1, none⟩ (fun i j => (w.cell? ⟨l.b, l.o + off * sz1 + i * sz1 + j, none⟩).getD Go.undef)
            (by cases wr <;> simp [hf]) hcapl hsz2 (fun hne => ⟨hA (by
              rcases Nat.eq_zero_or_pos len with h0 | h0
              · exact absurd (List.eq_nil_of_length_eq_zero (by omega)) hne
              · omega), rfl, by have := hhas hne; cases wr <;> exact this⟩)
            (fun i e j x h1 h2 => by
              obtain ⟨g1, cv, g2, g3⟩ := hx2 i e j x h1 h2
              exact ⟨g1, by dsimp only; rw [g2]; rfl⟩)
            (fun i e j x h1 h2 => by
              obtain ⟨g1, cv, g2, g3⟩ := hx2 i e j x h1 h2
              rw [g2]
              exact g3)
          rw [hl2] at this
          exact this
        · cases hd
      · cases hd
    case pt id idx sub =>
      split at hd
      · rename_i cs hth
        split at hd
        · rename_i hfo
          obtain ⟨rfl, rfl⟩ := hfo
          obtain ⟨cs2, hc2, rfl⟩ := Option.map_eq_some_iff.1 hd
          obtain ⟨a, rfl, hsp, hcell⟩ := cellsAt_sound h (cs := cs.drop sub) hR (by simp [cellsAt, hth])
          cases hR with
          | pt hp =>
            obtain ⟨hA, a', ha', hl⟩ := hp
            injection ha' with ha'
            injection ha' with ha'
            subst ha'
            obtain ⟨l, hm, hK, _⟩ := h.loc hth
            have hal := hl l hm
            refine .ro a (fun j => (w.cell? ⟨a.block, a.off + j, none⟩).getD Go.undef) hf (by rw [hal]) (fun hne => ?_) (fun j x hj => ?_) (fun j x hj => ?_)
            · have : a.block = l.b := by rw [hal]
              rw [this]
              exact hop id _ l hth hm rfl hK (.inl rfl)
            · obtain ⟨x0, g0, g1⟩ := mapO_get hc2 j x hj
              obtain ⟨k1, cv, k2, k3⟩ := hcell j x0 g0
              exact ⟨dr_cell g1 k1, by rw [k2]; rfl⟩
            · obtain ⟨x0, g0, g1⟩ := mapO_get hc2 j x hj
              obtain ⟨k1, cv, k2, k3⟩ := hcell j x0 g0
              rw [k2]
              refine ih x0 x cv k3 g1 (hop.mono fun q hq => ?_)
              simp only [refs, hth]
              exact List.mem_cons_of_mem _ (List.mem_flatMap.2 ⟨x0, List.mem_of_mem_drop (List.mem_of_getElem? g0), hq⟩)
        · cases hd
      · cases hd
    case mp id =>
      split at hd
      · rename_i wr es hth
        cases hd
        cases hR with
        | mp hp =>
          obtain ⟨hA, r, rfl, hl⟩ := hp
          obtain ⟨l, hm, hK, ents, clock, hE, hlen, hent⟩ := h.loc hth
          have hr := hl l hm
          subst hr
          refine .map ents clock (by cases wr <;> simp [hf]) ?_ hE hlen (fun i k x e h1 h2 => ((hent i k x e h1 h2).1).ext (Ext.bares hS hO) (Keep.refl _ _)) (fun i k x e h1 h2 => ((hent i k x e h1 h2).2).ext (Ext.bares hS hO) (Keep.refl _ _))
          cases wr with
          | true => exact hop id _ l hth hm rfl hK (.inr ⟨by simp [refs], fun _ => Thing.noConfusion⟩)
          | false => exact hS _ (h.rest id _ l hth hm rfl hK)
      · cases hd
    case agg cs =>
      obtain ⟨cs2, hc2, rfl⟩ := Option.map_eq_some_iff.1 hd
      obtain ⟨vs, rfl, hvs, hcc⟩ := hR.agg_inv
      have := R.agg_mk (ihL cs cs2 vs.toList hvs hc2 (by simpa only [refs] using hop)) (fun j x hj => by
        obtain ⟨x0, g0, g1⟩ := mapO_get hc2 j x hj
        exact dr_cell g1 (hcc j x0 g0))
      simpa using this
    case tup cs =>
      obtain ⟨cs2, hc2, rfl⟩ := Option.map_eq_some_iff.1 hd
      obtain ⟨vs, rfl, hvs⟩ := hR.tup_inv
      have := R.tup_mk (ihL cs cs2 vs.toList hvs hc2 (by simpa only [refs] using hop))
      simpa using this
    case fn f a b =>
      obtain ⟨a2, ha2, hd⟩ := Option.bind_eq_some_iff.1 hd
      obtain ⟨b2, hb2, rfl⟩ := Option.map_eq_some_iff.1 hd
      cases hR with
      | fn ha hb ra rb =>
        rename_i va vb
        have h1 := ihL a a2 va.toList (Rs.of_array ha ra) ha2 (hop.mono fun q hq => by simp only [refs]; exact List.mem_append_left _ hq)
        have h2 := ihL b b2 vb.toList (Rs.of_array hb rb) hb2 (hop.mono fun q hq => by simp only [refs]; exact List.mem_append_right _ hq)
        exact .fn (by simpa using h1.1) (by simpa using h2.1) (fun j x v hx hv => h1.2 j x v hx (by simpa using hv)) (fun j x v hx hv => h2.2 j x v hx (by simpa using hv))
end
end Go.Fm
end

section
/- FM: what may become of a frame's heap. -/
set_option autoImplicit false
namespace Go.Fm

def updH (H : HeapF) (id : Nat) (x : Option Thing) : HeapF := fun i => if i = id then x else H i
theorem updH_same (H : HeapF) (id : Nat) (x : Option Thing) : updH H id x id = x := by simp [updH]
theorem updH_ne (H : HeapF) {id i : Nat} (x : Option Thing) (h : i ≠ id) : updH H id x i = H i := by simp [updH, h]

theorem Lies.ext {w w' : World} {c c' : Cx} {l : Loc} {th : Thing} (h : Lies w c l th) (he : Ext c c') (hk : Keep c w w') (hb : 0 < l.K → w'.heap[l.b]? = w.heap[l.b]?) : Lies w' c' l th := by
  cases th with
  | row sz wr cl es =>
    obtain ⟨h1, h2, h3, h4⟩ := h
    refine ⟨h1, h2, h3, fun hp => ?_⟩
    obtain ⟨C, t, g1, g2, g3⟩ := h4 hp
    refine ⟨C, t, by rw [hb hp, g1], g2, fun i e j x hi hj => ?_⟩
    obtain ⟨k1, v, k2, k3⟩ := g3 i e j x hi hj
    refine ⟨k1, v, k2, ?_⟩
    cases cl with
    | true => exact R.ext k3 he.bare hk
    | false => exact R.ext k3 he hk
  | box cs =>
    obtain ⟨hp, C, t, g1, g2, g3⟩ := h
    refine ⟨hp, C, t, by rw [hb hp, g1], g2, fun j x hj => ?_⟩
    obtain ⟨k1, v, k2, k3⟩ := g3 j x hj
    exact ⟨k1, v, k2, k3.ext he hk⟩
  | map wr es =>
    obtain ⟨hp, ents, clock, g1, g2, g3⟩ := h
    refine ⟨hp, ents, clock, by rw [hb hp, g1], g2, fun i k x e h1 h2 => ?_⟩
    obtain ⟨k1, k2⟩ := g3 i k x e h1 h2
    exact ⟨k1.ext he.bare hk, k2.ext he.bare hk⟩

/-- The blocks of what may be written. -/
def OpenB (c : Cx) (H : HeapF) (b : Nat) : Prop := ∃ id th l, H id = some th ∧ c.μ id = some l ∧ th.open_ = true ∧ 0 < l.K ∧ l.b = b

structure Step (w : World) (c : Cx) (H : HeapF) (w' : World) (c' : Cx) (H' : HeapF) : Prop where
  heaps : Heaps w' c' H'
  ext : Ext c c'
  size : w.heap.size ≤ w'.heap.size
  same : ∀ b, b < w.heap.size → ¬ OpenB c H b → w'.heap[b]? = w.heap[b]?
  opens : ∀ b, OpenB c' H' b → OpenB c H b ∨ w.heap.size ≤ b
  sf : ∀ b, c'.Sf b → c.Sf b ∨ OpenB c H b ∨ w.heap.size ≤ b
  so : ∀ b, c'.So b → c.So b
  os : w'.os = w.os
  tape : w'.tape = w.tape
  output : w'.output = w.output

theorem Heaps.not_open {w : World} {c : Cx} {H : HeapF} (h : Heaps w c H) {b : Nat} (hb : c.Sf b ∨ c.So b) : ¬ OpenB c H b := by
  rintro ⟨id, th, l, h1, h2, h3, h4, rfl⟩
  obtain ⟨g1, g2, _⟩ := h.free id th l h1 h2 h3 h4
  exact hb.elim g1 g2
theorem Step.keep {w w' : World} {c c' : Cx} {H H' : HeapF} (h0 : Heaps w c H) (h : Step w c H w' c' H') : Keep c w w' :=
  fun b hb => h.same b (h0.old b hb) (h0.not_open hb)
theorem Step.refl {w : World} {c : Cx} {H : HeapF} (h : Heaps w c H) : Step w c H w c H :=
  ⟨h, Ext.refl c, Nat.le_refl _, fun _ _ _ => rfl, fun _ h => .inl h, fun _ h => .inl h, fun _ h => h, rfl, rfl, rfl⟩
theorem Step.trans {w w1 w2 : World} {c c1 c2 : Cx} {H H1 H2 : HeapF} (h : Step w c H w1 c1 H1) (k : Step w1 c1 H1 w2 c2 H2) : Step w c H w2 c2 H2 where
  heaps := k.heaps
  ext := h.ext.trans k.ext
  size := Nat.le_trans h.size k.size
  same b hb hn := by
    rw [k.same b (Nat.lt_of_lt_of_le hb h.size) (fun ho => (h.opens b ho).elim hn (fun hx => by omega)), h.same b hb hn]
  opens b hb := by
    rcases k.opens b hb with h1 | h1
    · exact h.opens b h1
    · right; have := h.size; omega
  sf b hb := by
    rcases k.sf b hb with h1 | h1 | h1
    · exact h.sf b h1
    · rcases h.opens b h1 with h2 | h2
      · exact .inr (.inl h2)
      · exact .inr (.inr h2)
    · exact .inr (.inr (by have := h.size; omega))
  so b hb := h.so b (k.so b hb)
  os := k.os.trans h.os
  tape := k.tape.trans h.tape
  output := k.output.trans h.output

section
variable {w : World} {c : Cx} {H : HeapF}

/-- A view that has one thing more. -/
def Cx.add (c : Cx) (n : Nat) (l : Loc) : Cx := { c with μ := fun i => if i = n then some l else c.μ i, A := fun i => i = n ∨ c.A i }
theorem Cx.ext_add {n : Nat} {l : Loc} (hn : ¬ c.A n) : Ext c (c.add n l) :=
  ⟨fun _ h => .inr h, fun id l' hA h => by
    have : id ≠ n := fun e => hn (e ▸ hA)
    simpa [Cx.add, this] using h, fun _ h => h, fun _ h => h⟩

/-- A new block, a new thing. -/
theorem Heaps.new (h : Heaps w c H) {n : Nat} (hn : ¬ c.A n) {w' : World} {l : Loc} {th : Thing} (hl : l.b = w.heap.size) (hsz : w'.heap.size = w.heap.size + 1) (hsame : ∀ b, b < w.heap.size → w'.heap[b]? = w.heap[b]?)
    (hos : w'.os = w.os) (htape : w'.tape = w.tape) (hout : w'.output = w.output) (hth : Lies w' (c.add n l) l th) (ho : th.open_ = true) :
    Step w c H w' (c.add n l) (updH H n (some th)) := by
  have hHn : H n = none := h.num n hn
  have hk : Keep c w w' := fun b hb => hsame b (h.old b hb)
  have he : Ext c (c.add n l) := Cx.ext_add hn
  have hμ : ∀ i, i ≠ n → (c.add n l).μ i = c.μ i := fun i hi => by simp [Cx.add, hi]
  have hμn : (c.add n l).μ n = some l := by simp [Cx.add]
  have lt : ∀ id th l', H id = some th → c.μ id = some l' → 0 < l'.K → l'.b < w.heap.size := by
    intro id th l' h1 h2 h3
    cases hop : th.open_ with
    | true => exact (h.free id th l' h1 h2 hop h3).2.2
    | false => exact h.old _ (.inl (h.rest id th l' h1 h2 hop h3))
  constructor
  · constructor
    · intro id th' hi
      by_cases hid : id = n
      · subst hid
        rw [updH_same] at hi
        cases hi
        exact ⟨l, hμn, hth⟩
      · rw [updH_ne _ _ hid] at hi
        obtain ⟨l', h1, h2⟩ := h.at_ id th' hi
        refine ⟨l', by rw [hμ id hid]; exact h1, h2.ext he hk fun hp => hsame _ (lt id th' l' hi h1 hp)⟩
    · intro id hi
      have hid : id ≠ n := fun e => hi (.inl e)
      rw [updH_ne _ _ hid]
      exact h.num id fun hA => hi (.inr hA)
    · intro id th' l' hi hm hop hp
      by_cases hid : id = n
      · subst hid
        rw [hμn] at hm
        cases hm
        refine ⟨fun hs => ?_, fun hs => ?_, by omega⟩
        · have := h.old _ (.inl hs); omega
        · have := h.old _ (.inr hs); omega
      · rw [updH_ne _ _ hid] at hi
        rw [hμ id hid] at hm
        obtain ⟨g1, g2, g3⟩ := h.free id th' l' hi hm hop hp
        exact ⟨g1, g2, by omega⟩
    · intro id th' l' hi hm hop hp
      by_cases hid : id = n
      · subst hid
        rw [updH_same] at hi
        cases hi
        rw [ho] at hop; cases hop
      · rw [updH_ne _ _ hid] at hi
        rw [hμ id hid] at hm
        exact h.rest id th' l' hi hm hop hp
    · intro i j th1 th2 l1 l2 hij hi hj hmi hmj ho1 ho2 hp1 hp2
      by_cases hin : i = n
      · subst hin
        rw [hμn] at hmi
        cases hmi
        have hjn : j ≠ i := fun e => hij e.symm
        rw [updH_ne _ _ hjn] at hj
        rw [hμ j hjn] at hmj
        have := lt j th2 l2 hj hmj hp2
        omega
      · rw [updH_ne _ _ hin] at hi
        rw [hμ i hin] at hmi
        by_cases hjn : j = n
        · subst hjn
          rw [hμn] at hmj
          cases hmj
          have := lt i th1 l1 hi hmi hp1
          omega
        · rw [updH_ne _ _ hjn] at hj
          rw [hμ j hjn] at hmj
          exact h.apart i j th1 th2 l1 l2 hij hi hj hmi hmj ho1 ho2 hp1 hp2
    · intro b hb
      have : b < w.heap.size := h.old b hb
      omega
  · exact he
  · omega
  · exact fun b hb _ => hsame b hb
  · rintro b ⟨id, th', l', h1, h2, h3, h4, rfl⟩
    by_cases hid : id = n
    · subst hid
      rw [hμn] at h2
      cases h2
      exact .inr (by omega)
    · rw [updH_ne _ _ hid] at h1
      rw [hμ id hid] at h2
      exact .inl ⟨id, th', l', h1, h2, h3, h4, rfl⟩
  · exact fun b hb => .inl hb
  · exact fun b hb => hb
  · exact hos
  · exact htape
  · exact hout

/-- A thing that may be written is written. -/
theorem Heaps.write (h : Heaps w c H) {id : Nat} {th th' : Thing} {l : Loc} (hi : H id = some th) (hm : c.μ id = some l) (ho : th.open_ = true) (hp : 0 < l.K) {w' : World} (hsz : w'.heap.size = w.heap.size)
    (hsame : ∀ b, b ≠ l.b → w'.heap[b]? = w.heap[b]?) (hos : w'.os = w.os) (htape : w'.tape = w.tape) (hout : w'.output = w.output) (hth : Lies w' c l th') (ho' : th'.open_ = true) :
    Step w c H w' c (updH H id (some th')) := by
  obtain ⟨f1, f2, f3⟩ := h.free id th l hi hm ho hp
  have hk : Keep c w w' := fun b hb => hsame b (fun e => by subst e; exact hb.elim f1 f2)
  constructor
  · constructor
    · intro i th1 h1
      by_cases hid : i = id
      · subst hid
        rw [updH_same] at h1
        cases h1
        exact ⟨l, hm, hth⟩
      · rw [updH_ne _ _ hid] at h1
        obtain ⟨l1, g1, g2⟩ := h.at_ i th1 h1
        refine ⟨l1, g1, g2.ext (Ext.refl c) hk fun hp1 => hsame _ ?_⟩
        intro e
        cases hop : th1.open_ with
        | true => exact h.apart i id th1 th l1 l hid h1 hi g1 hm hop ho hp1 hp e
        | false => exact f1 (e ▸ h.rest i th1 l1 h1 g1 hop hp1)
    · intro i h1
      by_cases hid : i = id
      · subst hid
        have := h.num i h1
        rw [hi] at this
        cases this
      · rw [updH_ne _ _ hid]; exact h.num i h1
    · intro i th1 l1 h1 g1 hop hp1
      by_cases hid : i = id
      · subst hid
        rw [hm] at g1
        cases g1
        exact ⟨f1, f2, by omega⟩
      · rw [updH_ne _ _ hid] at h1
        obtain ⟨g1, g2, g3⟩ := h.free i th1 l1 h1 g1 hop hp1
        exact ⟨g1, g2, by omega⟩
    · intro i th1 l1 h1 g1 hop hp1
      by_cases hid : i = id
      · subst hid
        rw [updH_same] at h1
        cases h1
        rw [ho'] at hop; cases hop
      · rw [updH_ne _ _ hid] at h1
        exact h.rest i th1 l1 h1 g1 hop hp1
    · intro i j th1 th2 l1 l2 hij h1 h2 g1 g2 o1 o2 p1 p2
      by_cases hin : i = id
      · subst hin
        rw [hm] at g1
        cases g1
        have hjn : j ≠ i := fun e => hij e.symm
        rw [updH_ne _ _ hjn] at h2
        exact h.apart i j th th2 l l2 hij hi h2 hm g2 ho o2 p1 p2
      · rw [updH_ne _ _ hin] at h1
        by_cases hjn : j = id
        · subst hjn
          rw [hm] at g2
          cases g2
          exact h.apart i j th1 th l1 l hij h1 hi g1 hm o1 ho p1 p2
        · rw [updH_ne _ _ hjn] at h2
          exact h.apart i j th1 th2 l1 l2 hij h1 h2 g1 g2 o1 o2 p1 p2
    · intro b hb
      have := h.old b hb
      omega
  · exact Ext.refl c
  · omega
  · intro b hb hn
    refine hsame b fun e => hn ⟨id, th, l, hi, hm, ho, hp, e.symm⟩
  · rintro b ⟨i, th1, l1, h1, h2, h3, h4, rfl⟩
    by_cases hid : i = id
    · subst hid
      rw [hm] at h2
      cases h2
      exact .inl ⟨i, th, l, hi, hm, ho, hp, rfl⟩
    · rw [updH_ne _ _ hid] at h1
      exact .inl ⟨i, th1, l1, h1, h2, h3, h4, rfl⟩
  · exact fun b hb => .inl hb
  · exact fun b hb => hb
  · exact hos
  · exact htape
  · exact hout

/-- Less is known of the heap. -/
theorem Heaps.sub (h : Heaps w c H) {H' : HeapF} (hs : ∀ id th, H' id = some th → H id = some th) : Heaps w c H' where
  at_ id th hi := h.at_ id th (hs id th hi)
  num id hi := by
    cases e : H' id with
    | none => rfl
    | some th => have := h.num id hi; rw [hs id th e] at this; cases this
  free id th l hi := h.free id th l (hs id th hi)
  rest id th l hi := h.rest id th l (hs id th hi)
  apart i j th th' l l' hij hi hj := h.apart i j th th' l l' hij (hs i th hi) (hs j th' hj)
  old := h.old

/-- A thing is let go. -/
theorem Heaps.kill (h : Heaps w c H) (n : Nat) : Step w c H w c (updH H n none) := by
  have ne : ∀ i th, updH H n none i = some th → H i = some th := by
    intro i th hi
    by_cases e : i = n
    · subst e; rw [updH_same] at hi; cases hi
    · rwa [updH_ne _ _ e] at hi
  refine ⟨h.sub ne, Ext.refl c, Nat.le_refl _, fun _ _ _ => rfl, ?_, fun _ h => .inl h, fun _ h => h, rfl, rfl, rfl⟩
  rintro b ⟨i, th, l, h1, h2, h3, h4, rfl⟩
  exact .inl ⟨i, th, l, ne i th h1, h2, h3, h4, rfl⟩

def Thing.frozen : Thing → Thing
  | .row sz _ cl es => .row sz false cl es
  | .map _ es => .map false es
  | .box cs => .box cs
/-- A row, a map comes to rest. -/
def Cx.rested (c : Cx) (b : Nat) : Cx := { c with Sf := fun b' => b' = b ∨ c.Sf b' }
theorem Cx.ext_rested {b : Nat} : Ext c (c.rested b) := ⟨fun _ h => h, fun _ _ _ h => h, fun _ h => .inr h, fun _ h => h⟩
theorem Lies.frozen {l : Loc} {th : Thing} (h : Lies w c l th) : Lies w c l th.frozen := by
  cases th <;> exact h

/-- A row, a map comes to rest. -/
theorem Heaps.rest1 (h : Heaps w c H) {id : Nat} {th : Thing} {l : Loc} (hi : H id = some th) (hm : c.μ id = some l) (ho : th.open_ = true) (hb : th.frozen.open_ = false) :
    Step w c H w (if 0 < l.K then c.rested l.b else c) (updH H id (some th.frozen)) := by
  have he : Ext c (if 0 < l.K then c.rested l.b else c) := by
    split
    · exact Cx.ext_rested
    · exact Ext.refl c
  have hμ : (if 0 < l.K then c.rested l.b else c).μ = c.μ := by split <;> rfl
  have hA : (if 0 < l.K then c.rested l.b else c).A = c.A := by split <;> rfl
  have hSo : (if 0 < l.K then c.rested l.b else c).So = c.So := by split <;> rfl
  have hSf : ∀ b, (if 0 < l.K then c.rested l.b else c).Sf b → (0 < l.K ∧ b = l.b) ∨ c.Sf b := by
    intro b hb
    by_cases hp : 0 < l.K
    · rw [if_pos hp] at hb
      exact hb.imp (fun e => ⟨hp, e⟩) (fun x => x)
    · rw [if_neg hp] at hb
      exact .inr hb
  have ne : ∀ i th', updH H id (some th.frozen) i = some th' → (i = id ∧ th' = th.frozen) ∨ (i ≠ id ∧ H i = some th') := by
    intro i th' h1
    by_cases e : i = id
    · subst e; rw [updH_same] at h1; cases h1; exact .inl ⟨rfl, rfl⟩
    · rw [updH_ne _ _ e] at h1; exact .inr ⟨e, h1⟩
  constructor
  · constructor
    · intro i th' h1
      rw [hμ]
      rcases ne i th' h1 with ⟨rfl, rfl⟩ | ⟨e, h1⟩
      · obtain ⟨l', g1, g2⟩ := h.at_ i th hi
        rw [hm] at g1
        cases g1
        exact ⟨l, hm, (g2.frozen).ext he (Keep.refl _ _) fun _ => rfl⟩
      · obtain ⟨l', g1, g2⟩ := h.at_ i th' h1
        exact ⟨l', g1, g2.ext he (Keep.refl _ _) fun _ => rfl⟩
    · intro i h1
      rw [hA] at h1
      by_cases e : i = id
      · subst e
        have := h.num i h1
        rw [hi] at this
        cases this
      · rw [updH_ne _ _ e]; exact h.num i h1
    · intro i th' l' h1 g1 o1 p1
      rw [hμ] at g1
      rcases ne i th' h1 with ⟨rfl, rfl⟩ | ⟨e, h1⟩
      · rw [hb] at o1; cases o1
      · obtain ⟨f1, f2, f3⟩ := h.free i th' l' h1 g1 o1 p1
        refine ⟨fun hs => ?_, by rw [hSo]; exact f2, f3⟩
        rcases hSf _ hs with ⟨hp, e'⟩ | hs
        · exact h.apart i id th' th l' l e h1 hi g1 hm o1 ho p1 hp e'
        · exact f1 hs
    · intro i th' l' h1 g1 o1 p1
      rw [hμ] at g1
      rcases ne i th' h1 with ⟨rfl, rfl⟩ | ⟨e, h1⟩
      · rw [hm] at g1
        cases g1
        rw [if_pos p1]
        exact .inl rfl
      · exact he.Sf _ (h.rest i th' l' h1 g1 o1 p1)
    · intro i j th1 th2 l1 l2 hij h1 h2 g1 g2 o1 o2 p1 p2
      rw [hμ] at g1 g2
      rcases ne i th1 h1 with ⟨rfl, rfl⟩ | ⟨e1, h1⟩
      · rw [hb] at o1; cases o1
      · rcases ne j th2 h2 with ⟨rfl, rfl⟩ | ⟨e2, h2⟩
        · rw [hb] at o2; cases o2
        · exact h.apart i j th1 th2 l1 l2 hij h1 h2 g1 g2 o1 o2 p1 p2
    · intro b hs
      rw [hSo] at hs
      rcases hs with hs | hs
      · rcases hSf _ hs with ⟨hp, rfl⟩ | hs
        · exact (h.free id th l hi hm ho hp).2.2
        · exact h.old b (.inl hs)
      · exact h.old b (.inr hs)
  · exact he
  · omega
  · exact fun _ _ _ => rfl
  · rintro b ⟨i, th', l', h1, h2, h3, h4, rfl⟩
    rw [hμ] at h2
    rcases ne i th' h1 with ⟨rfl, rfl⟩ | ⟨e, h1⟩
    · rw [hb] at h3; cases h3
    · exact .inl ⟨i, th', l', h1, h2, h3, h4, rfl⟩
  · intro b hs
    rcases hSf b hs with ⟨hp, rfl⟩ | hs
    · exact .inr (.inl ⟨id, th, l, hi, hm, ho, hp, rfl⟩)
    · exact .inl hs
  · intro b hs; rw [hSo] at hs; exact hs
  · rfl
  · rfl
  · rfl

/-- FM's heap, and the whole one beside: below a number they are one; FM's has nothing from there on. -/
structure Agree (nx : Nat) (L : Heap) (H : HeapF) : Prop where
  low : ∀ id, id < nx → H id = L.get id
  top : ∀ id, nx ≤ id → L.get id = none

theorem Agree.lt {nx : Nat} {L : Heap} (h : Agree nx L H) {id : Nat} {th : Thing} (hi : L.get id = some th) : id < nx ∧ H id = some th := by
  have : id < nx := by
    rcases Nat.lt_or_ge id nx with h1 | h1
    · exact h1
    · rw [h.top id h1] at hi; cases hi
  exact ⟨this, by rw [h.low id this, hi]⟩
theorem Agree.put {nx : Nat} {L : Heap} (h : Agree nx L H) {id : Nat} (hi : id < nx) (x : Option Thing) : Agree nx (L.put id x) (updH H id x) := by
  refine ⟨fun j hj => ?_, fun j hj => ?_⟩
  · by_cases e : j = id
    · subst e; rw [updH_same, Tr.get_put_same]
    · rw [updH_ne _ _ e, Tr.get_put_ne _ _ _ _ (fun x => e x.symm), h.low j hj]
  · rw [Tr.get_put_ne _ _ _ _ (by omega), h.top j hj]
theorem Agree.add {nx : Nat} {L : Heap} (h : Agree nx L H) (x : Option Thing) : Agree (nx + 1) (L.put nx x) (updH H nx x) := by
  refine ⟨fun j hj => ?_, fun j hj => ?_⟩
  · by_cases e : j = nx
    · subst e; rw [updH_same, Tr.get_put_same]
    · rw [updH_ne _ _ e, Tr.get_put_ne _ _ _ _ (fun x => e x.symm), h.low j (by omega)]
  · rw [Tr.get_put_ne _ _ _ _ (by omega), h.top j (by omega)]

theorem Agree.sub {nx : Nat} {L : Heap} (h : Agree nx L H) : ∀ id th, L.get id = some th → H id = some th := fun _ _ hi => (h.lt hi).2

/-- What freezing some comes to. -/
structure Froze (w : World) (c : Cx) (H : HeapF) (nx : Nat) (L : Heap) (ids : List Nat) (c' : Cx) (H' : HeapF) (L' : Heap) : Prop where
  step : Step w c H w c' H'
  agree : Agree nx L' H'
  A : c'.A = c.A
  μ : c'.μ = c.μ
  top : ∀ i, nx ≤ i → H' i = H i
  rested : ∀ id, id ∈ ids → ∀ th l, L.get id = some th → c.μ id = some l → th.open_ = true → 0 < l.K → (∃ cs, th = .box cs) ∨ c'.Sf l.b
  was : ∀ i th, L'.get i = some th → ∃ th0, L.get i = some th0 ∧ (th = th0 ∨ th = th0.frozen)
  box : ∀ i cs, L.get i = some (.box cs) → L'.get i = some (.box cs)

theorem Froze.nil {nx : Nat} {L : Heap} (h : Heaps w c H) (ha : Agree nx L H) : Froze w c H nx L [] c H L :=
  ⟨Step.refl h, ha, rfl, rfl, fun _ _ => rfl, fun _ hi => (by cases hi), fun _ th hi => ⟨th, hi, .inl rfl⟩, fun _ _ h => h⟩

theorem freeze1_sound {nx : Nat} {L : Heap} (h : Heaps w c H) (ha : Agree nx L H) (id : Nat) : ∃ c' H', Froze w c H nx L [id] c' H' (freeze1 L id) := by
  have idle : freeze1 L id = L → (∀ th l, L.get id = some th → c.μ id = some l → th.open_ = true → 0 < l.K → (∃ cs, th = .box cs) ∨ c.Sf l.b) → ∃ c' H', Froze w c H nx L [id] c' H' (freeze1 L id) := by
    intro e hq
    rw [e]
    exact ⟨c, H, Step.refl h, ha, rfl, rfl, fun _ _ => rfl, fun i hi => by simp at hi; subst hi; exact hq, fun _ th hi => ⟨th, hi, .inl rfl⟩, fun _ _ h => h⟩
  have act : ∀ th, L.get id = some th → (∀ cs, th ≠ .box cs) → th.open_ = true → th.frozen.open_ = false → freeze1 L id = L.put id (some th.frozen) → ∃ c' H', Froze w c H nx L [id] c' H' (freeze1 L id) := by
    intro th hg hnb ho hb e
    obtain ⟨hlt, hi⟩ := ha.lt hg
    obtain ⟨l, hm, _⟩ := h.at_ id th hi
    rw [e]
    refine ⟨_, _, h.rest1 hi hm ho hb, ha.put hlt _, by split <;> rfl, by split <;> rfl, fun i hn => updH_ne _ _ (by omega), ?_, ?_, ?_⟩
    · intro i hi' th' l' h1 h2 h3 h4
      simp at hi'
      subst hi'
      rw [hm] at h2
      cases h2
      right
      rw [if_pos h4]
      exact .inl rfl
    · intro i th' h1
      by_cases e' : id = i
      · subst e'
        rw [Tr.get_put_same] at h1
        cases h1
        exact ⟨th, hg, .inr rfl⟩
      · rw [Tr.get_put_ne _ _ _ _ e'] at h1
        exact ⟨th', h1, .inl rfl⟩
    · intro i cs h1
      by_cases e' : id = i
      · subst e'
        rw [hg] at h1
        cases h1
        exact absurd rfl (hnb cs)
      · rw [Tr.get_put_ne _ _ _ _ e']
        exact h1
  cases hg : L.get id with
  | none => exact idle (by simp [freeze1, hg]) fun th l h1 => by rw [hg] at h1; cases h1
  | some th =>
    cases th with
    | box cs => exact idle (by simp [freeze1, hg]) fun th l h1 h2 h3 h4 => .inl ⟨cs, by rw [hg] at h1; cases h1; rfl⟩
    | row sz wr cl es =>
      cases wr with
      | true => exact act _ hg (fun _ e => by cases e) rfl rfl (by simp [freeze1, hg, Thing.frozen])
      | false => exact idle (by simp [freeze1, hg]) fun th l h1 h2 h3 h4 => by rw [hg] at h1; cases h1; cases h3
    | map wr es =>
      cases wr with
      | true => exact act _ hg (fun _ e => by cases e) rfl rfl (by simp [freeze1, hg, Thing.frozen])
      | false => exact idle (by simp [freeze1, hg]) fun th l h1 h2 h3 h4 => by rw [hg] at h1; cases h1; cases h3

theorem Thing.frozen_frozen (th : Thing) : th.frozen.frozen = th.frozen := by cases th <;> rfl
theorem Thing.frozen_open {th : Thing} (h : th.frozen.open_ = true) : ∃ cs, th = .box cs := by cases th <;> first | (cases h; done) | exact ⟨_, rfl⟩

theorem freeze_sound : ∀ (ids : List Nat) {w : World} {c : Cx} {H : HeapF} {nx : Nat} {L : Heap}, Heaps w c H → Agree nx L H → ∃ c' H', Froze w c H nx L ids c' H' (freeze L ids)
  | [], _, _, _, _, _, h, ha => ⟨_, _, Froze.nil h ha⟩
  | id :: ids, w, c, H, nx, L, h, ha => by
    obtain ⟨c1, H1, f1⟩ := freeze1_sound h ha id
    obtain ⟨c2, H2, f2⟩ := freeze_sound ids f1.step.heaps f1.agree
    refine ⟨c2, H2, f1.step.trans f2.step, f2.agree, f2.A.trans f1.A, f2.μ.trans f1.μ, fun i hi => (f2.top i hi).trans (f1.top i hi), ?_, ?_, ?_⟩
    · intro i hi th l h1 h2 h3 h4
      rcases List.mem_cons.1 hi with rfl | hi
      · rcases f1.rested i (by simp) th l h1 h2 h3 h4 with hb | hs
        · exact .inl hb
        · exact .inr (f2.step.ext.Sf _ hs)
      · -- as it is behind the first one
        cases hg : (freeze1 L id).get i with
        | none =>
          -- nothing is taken away by freezing
          exfalso
          unfold freeze1 at hg
          split at hg
          · by_cases e : id = i
            · subst e; rw [Tr.get_put_same] at hg; cases hg
            · rw [Tr.get_put_ne _ _ _ _ e, h1] at hg; cases hg
          · by_cases e : id = i
            · subst e; rw [Tr.get_put_same] at hg; cases hg
            · rw [Tr.get_put_ne _ _ _ _ e, h1] at hg; cases hg
          · rw [h1] at hg; cases hg
        | some th' =>
          obtain ⟨th0, g0, g1⟩ := f1.was i th' hg
          rw [h1] at g0
          cases g0
          rcases g1 with rfl | rfl
          · exact f2.rested i hi _ l hg (by rw [f1.μ]; exact h2) h3 h4
          · cases hop : th.frozen.open_ with
            | true => exact .inl (Thing.frozen_open hop)
            | false =>
              right
              have hH := (f1.agree.lt hg).2
              exact f2.step.ext.Sf _ (f1.step.heaps.rest i _ l hH (by rw [f1.μ]; exact h2) hop h4)
    · intro i th hi
      obtain ⟨th1, g1, g2⟩ := f2.was i th hi
      obtain ⟨th0, k1, k2⟩ := f1.was i th1 g1
      refine ⟨th0, k1, ?_⟩
      rcases g2 with rfl | rfl
      · exact k2
      · rcases k2 with rfl | rfl
        · exact .inr rfl
        · exact .inr (Thing.frozen_frozen _)
    · exact fun i cs hi => f2.box i cs (f1.box i cs hi)
end
end Go.Fm
end

section
/- FM: operations that make something new. -/
set_option autoImplicit false
namespace Go.Fm

theorem R.bare_of_noRef {w : World} {c : Cx} {x : V} {u : Value} (h : R w c x u) (hx : hasRef x = false) : R w c.bare x u := by
  have ext0 : Ext c.bare c.bare := Ext.refl _
  cases h with
  | undef => exact .undef
  | junk h => exact .junk h
  | int k n => exact .int k n
  | bool b => exact .bool b
  | str s => exact .str s
  | arr a cv hf hc hs hA hx' hr => exact .arr a cv hf hc hs hA hx' hr
  | nilsl => exact .nilsl
  | z A => exact .z A
  | sl h => cases hx
  | pt h => cases hx
  | nilp => exact .nilp
  | ro a cv hf ha hA hx' hr => exact .ro a cv hf ha hA hx' hr
  | mp h => cases hx
  | map ents clock hf hA hm hl hk hr => exact .map ents clock hf hA hm hl hk hr
  | nilmap => exact .nilmap
  | fn ha hb ra rb =>
    simp only [hasRef, Bool.not_eq_false', Bool.and_eq_true, List.isEmpty_iff] at hx
    obtain ⟨rfl, rfl⟩ := hx
    exact .fn ha hb (fun j x v h => by simp at h) (fun j x v h => by simp at h)
  | agg hl hx' hr => cases hx
  | tup hl hr => cases hx

section
variable {P : Program} {w : World} {c : Cx} {H : HeapF} {env : Nat → V} {a : Act} {op : Oper}

theorem push_get {α : Type} (xs : Array α) (x : α) (b : Nat) (h : b < xs.size) : (xs.push x)[b]? = xs[b]? := by
  rw [Array.getElem?_push]
  rw [if_neg (by omega)]
theorem push_last {α : Type} (xs : Array α) (x : α) : (xs.push x)[xs.size]? = some x := by
  rw [Array.getElem?_push]; simp

/-- What making something comes to. -/
def Made (P : Program) (w : World) (c : Cx) (H : HeapF) (a : Act) (op : Oper) (n : Nat) (v : V) (th : Thing) : Prop :=
  ∃ v' w' l, (execOp a.eval op).run P w = .ok (.value v') w' ∧ Step w c H w' (c.add n l) (updH H n (some th)) ∧ R w' (c.add n l) v v'

theorem add_same {n : Nat} {l : Loc} : (c.add n l).μ n = some l := by simp [Cx.add]
theorem add_A {n : Nat} {l : Loc} : (c.add n l).A n := .inl rfl

/-- A new row of cells. -/
theorem made_cells (h : Heaps w c H) {n : Nat} (hn : ¬ c.A n) (C : Array Value) (t : TypeId) {l : Loc} {th : Thing} (hl : l.b = w.heap.size) (ho : th.open_ = true)
    (hth : Keep c w { w with heap := w.heap.push (.cells C t) } → Ext c (c.add n l) → Lies { w with heap := w.heap.push (.cells C t) } (c.add n l) l th) :
    Step w c H { w with heap := w.heap.push (.cells C t) } (c.add n l) (updH H n (some th)) := by
  have hk : Keep c w { w with heap := w.heap.push (.cells C t) } := fun b hb => push_get _ _ _ (h.old b hb)
  exact h.new hn hl (by simp) (fun b hb => push_get _ _ _ hb) rfl rfl rfl (hth hk (Cx.ext_add hn)) ho

theorem lies_box {w' : World} {c' : Cx} {cs : List V} {C : Array Value} {t : TypeId} {l : Loc} (hK : 0 < l.K) (hC : w'.heap[l.b]? = some (.cells C t (0, 0))) (ho : l.o = 0) (hR : Rs w' c' cs C.toList) (hc : cs.all isCell = true) : Lies w' c' l (.box cs) := by
  refine ⟨hK, C, t, hC, by have := hR.1; simp at this; omega, fun j x hj => ?_⟩
  obtain ⟨v, h1, h2⟩ := hR.get hj
  exact ⟨allCell_get hc j x hj, v, by rw [ho]; simpa using h1, h2⟩

theorem made_box (h : Heaps w c H) {n : Nat} (hn : ¬ c.A n) {t : TypeId} {x : Operand} (hop : op.op = .box t x) {x' : Opd} (hx : cOpd x = some x') (hE : EnvR w c env a) (hc : (opd env x').cells.all isCell = true) :
    Made P w c H a op n (.pt n 0 0) (.box (opd env x').cells) := by
  obtain ⟨hR, _⟩ := (opd_sound hE hx).cells_inv hc
  refine ⟨.pointer (some ⟨w.heap.size, 0, none⟩), { w with heap := w.heap.push (.cells (a.eval x).cells t) }, ⟨w.heap.size, 0, 0, 1⟩, ?_, ?_, ?_⟩
  · simp [execOp, hop, Instr.box, newVar, newRow]
  · refine made_cells h hn _ _ rfl rfl fun hk he => lies_box Nat.one_pos (push_last _ _) rfl (hR.ext he hk) hc
  · exact .pt ⟨add_A, _, rfl, fun l hl => by rw [add_same] at hl; cases hl; rfl⟩

theorem made_alo (h : Heaps w c H) {n : Nat} (hn : ¬ c.A n) {t : TypeId} (hop : op.op = .alloc t) {zr : V} (hz : zeroV P t = some zr) : Made P w c H a op n (.pt n 0 0) (.box zr.cells) := by
  obtain ⟨i, v, hi, hv, _, hR, hc, _⟩ := zero_sound (w := w) (c := c) hz
  refine ⟨.pointer (some ⟨w.heap.size, 0, none⟩), { w with heap := w.heap.push (.cells v.cells t) }, ⟨w.heap.size, 0, 0, 1⟩, ?_, ?_, ?_⟩
  · simp [execOp, hop, Instr.alloc, newVar, newRow, zeroValue, typeInfo, hi, hv]
  · refine made_cells h hn _ _ rfl rfl fun hk he => lies_box Nat.one_pos (push_last _ _) rfl (hR.ext he hk) hc
  · exact .pt ⟨add_A, _, rfl, fun l hl => by rw [add_same] at hl; cases hl; rfl⟩

theorem made_mkm (h : Heaps w c H) {n : Nat} (hn : ¬ c.A n) {t : TypeId} (hop : op.op = .makeMap t none) : Made P w c H a op n (.mp n) (.map true []) := by
  refine ⟨.map (some w.heap.size), { w with heap := w.heap.push (.map #[] 0) }, ⟨w.heap.size, 0, 0, 1⟩, ?_, ?_, ?_⟩
  · simp [execOp, hop, Instr.makeMap]
  · exact h.new hn rfl (by simp) (fun b hb => push_get _ _ _ hb) rfl rfl rfl ⟨Nat.one_pos, #[], 0, push_last _ _, rfl, fun i k x e h1 => by simp at h1⟩ rfl
  · exact .mp ⟨add_A, _, rfl, fun l hl => by rw [add_same] at hl; cases hl; rfl⟩

/-! ### Rows, laid flat -/
theorem flat_get {α : Type} {sz : Nat} : ∀ (es : List (List α)), (∀ (i : Nat) (e : List α), es[i]? = some e → e.length = sz) → ∀ (i j : Nat) (e : List α) (x : α), es[i]? = some e → e[j]? = some x → es.flatten[i * sz + j]? = some x
  | [], _, i, j, e, x, h, _ => by simp at h
  | e0 :: es, hs, i, j, e, x, h, hx => by
    have h0 := hs 0 e0 rfl
    cases i with
    | zero =>
      simp at h
      subst h
      have hj : j < e0.length := (List.getElem?_eq_some_iff.1 hx).1
      simp only [List.flatten_cons, Nat.zero_mul, Nat.zero_add]
      rw [List.getElem?_append_left hj]
      exact hx
    | succ i =>
      simp at h
      have ih := flat_get es (fun i e h => hs (i + 1) e (by simpa using h)) i j e x h hx
      simp only [List.flatten_cons]
      rw [List.getElem?_append_right (by rw [h0, Nat.add_mul]; omega), h0]
      rw [show (i + 1) * sz + j - sz = i * sz + j by rw [Nat.add_mul]; omega]
      exact ih
theorem flat_len {α : Type} {sz : Nat} : ∀ (es : List (List α)), (∀ (i : Nat) (e : List α), es[i]? = some e → e.length = sz) → es.flatten.length = es.length * sz
  | [], _ => by simp
  | e :: es, hs => by
    simp only [List.flatten_cons, List.length_append, List.length_cons]
    rw [flat_len es (fun i e h => hs (i + 1) e (by simpa using h)), hs 0 e rfl, Nat.add_mul]
    omega
theorem flat_set {α : Type} {sz : Nat} : ∀ (es : List (List α)) (i : Nat) (xs : List α), (∀ (i : Nat) (e : List α), es[i]? = some e → e.length = sz) → xs.length = sz → i < es.length → (es.set i xs).flatten = putL es.flatten (i * sz) xs
  | [], i, xs, _, _, h => by simp at h
  | e :: es, 0, xs, hs, hx, _ => by
    have h0 := hs 0 e rfl
    simp [putL, hx, ← h0]
  | e :: es, i + 1, xs, hs, hx, h => by
    have h0 := hs 0 e rfl
    have ih := flat_set es i xs (fun i e h => hs (i + 1) e (by simpa using h)) hx (by simpa using h)
    have hl := flat_len es (fun i e h => hs (i + 1) e (by simpa using h))
    simp only [List.set_cons_succ, List.flatten_cons, ih]
    have hi : i * sz ≤ es.flatten.length := by
      rw [hl]
      exact Nat.mul_le_mul_right _ (by simp at h; omega)
    rw [putL_eq _ _ _ hi, putL_eq _ _ _ (by simp only [List.length_append]; rw [h0, Nat.add_mul]; omega)]
    rw [show (i + 1) * sz = e.length + i * sz by rw [h0, Nat.add_mul]; omega]
    rw [List.take_length_add_append, Nat.add_assoc, List.drop_length_add_append]
    simp [List.append_assoc]
theorem set_sz {α : Type} {sz : Nat} {es : List (List α)} (hs : ∀ (i : Nat) (e : List α), es[i]? = some e → e.length = sz) {k : Nat} {xs : List α} (hx : xs.length = sz) : ∀ (i : Nat) (e : List α), (es.set k xs)[i]? = some e → e.length = sz := by
  intro i e h
  rw [List.getElem?_set] at h
  split at h
  · split at h
    · cases h; exact hx
    · cases h
  · exact hs i e h

theorem lies_row {w' : World} {c' : Cx} {sz : Nat} {es : List (List V)} {C : Array Value} {t : TypeId} {l : Loc} {wr cl : Bool} (hsz : l.sz = sz) (hK : es.length ≤ l.K) (hC : w'.heap[l.b]? = some (.cells C t (0, 0))) (hb : l.o + l.K * sz ≤ C.size)
    (hs : ∀ (i : Nat) (e : List V), es[i]? = some e → e.length = sz) (hR : Rs w' (if cl then c'.bare else c') es.flatten ((C.toList.drop l.o).take (es.length * sz))) (hc : es.flatten.all isCell = true) : Lies w' c' l (.row sz wr cl es) := by
  refine ⟨hsz, hK, hs, fun _ => ⟨C, t, hC, hb, fun i e j x hi hj => ?_⟩⟩
  have hf := flat_get es hs i j e x hi hj
  obtain ⟨v, h1, h2⟩ := hR.get hf
  refine ⟨allCell_get hc _ _ hf, v, ?_, h2⟩
  rw [List.getElem?_take] at h1
  split at h1
  · rw [List.getElem?_drop] at h1
    rw [show l.o + i * sz + j = l.o + (i * sz + j) by omega]
    simpa using h1
  · cases h1

/-- Zeros, laid flat. -/
theorem zeros_flat (zs : List V) (zv : Array Value) (n : Nat) (hR : Rs w c zs zv.toList) :
    Rs w c (List.replicate n zs).flatten ((Array.range (n * zs.length)).map (zv[· % zv.size]!)).toList := by
  have hsz : zv.size = zs.length := by have := hR.1; simp at this; omega
  have hlen : (List.replicate n zs).flatten.length = n * zs.length := by simp
  refine ⟨by simp, fun j x v hj hv => ?_⟩
  have hjl : j < n * zs.length := by rw [← hlen]; exact (List.getElem?_eq_some_iff.1 hj).1
  have hpos : 0 < zs.length := by
    rcases Nat.eq_zero_or_pos zs.length with h | h
    · rw [h] at hjl; omega
    · exact h
  have hjm : j % zs.length < zs.length := Nat.mod_lt _ hpos
  have hdiv : j / zs.length < n := Nat.div_lt_of_lt_mul (by rw [Nat.mul_comm]; exact hjl)
  have hall : ∀ (i : Nat) (e : List V), (List.replicate n zs)[i]? = some e → e.length = zs.length := by
    intro i e h
    rw [List.getElem?_replicate] at h
    split at h
    · cases h; rfl
    · cases h
  have hx' : zs[j % zs.length]? = some zs[j % zs.length] := List.getElem?_eq_getElem hjm
  have hf := flat_get (List.replicate n zs) hall (j / zs.length) (j % zs.length) zs zs[j % zs.length] (by rw [List.getElem?_replicate, if_pos hdiv]) hx'
  rw [Nat.mul_comm, Nat.div_add_mod] at hf
  rw [hf] at hj
  cases hj
  have hv' : v = zv[j % zv.size]! := by
    have : ((Array.range (n * zs.length)).map (zv[· % zv.size]!)).toList[j]? = some (zv[j % zv.size]!) := by
      simp [hjl]
    rw [this] at hv
    cases hv
    rfl
  have hz : zv[j % zs.length]? = some zv[j % zs.length]! := by
    have : j % zs.length < zv.size := by omega
    rw [Array.getElem?_eq_getElem this]
    simp [this]
  rw [hv', hsz]
  exact hR.2 _ _ _ hx' (by simpa using hz)

theorem rows_fold {sz : Nat} : ∀ (ps : List (Nat × V)) (es r : List (List V)), (∀ (i : Nat) (e : List V), es[i]? = some e → e.length = sz) →
    ps.foldlM (fun es p => if p.2.cells.length = sz ∧ p.1 < es.length ∧ p.2.cells.all isCell = true then some (es.set p.1 p.2.cells) else none) es = some r →
    (ps.map fun p => (p.1 * sz, sz, p.2)).foldlM (fun cs (p : Nat × Nat × V) => if p.2.2.cells.length = p.2.1 ∧ p.1 + p.2.1 ≤ cs.length ∧ p.2.2.cells.all isCell = true then some (putL cs p.1 p.2.2.cells) else none) es.flatten = some r.flatten ∧
      r.length = es.length ∧ ∀ (i : Nat) (e : List V), r[i]? = some e → e.length = sz
  | [], es, r, hs, h => by
    simp only [List.foldlM_nil, pure, Option.some.injEq] at h
    subst h
    exact ⟨rfl, rfl, hs⟩
  | p :: ps, es, r, hs, h => by
    simp only [List.foldlM_cons, bind, Option.bind_eq_some_iff] at h
    obtain ⟨es1, h1, h⟩ := h
    split at h1
    · rename_i hk
      obtain ⟨k1, k2, k3⟩ := hk
      cases h1
      obtain ⟨g1, g2, g3⟩ := rows_fold ps _ r (set_sz hs k1) h
      refine ⟨?_, by rw [g2]; simp, g3⟩
      simp only [List.map_cons, List.foldlM_cons]
      have hfl := flat_len es hs
      have : p.1 * sz + sz ≤ es.flatten.length := by
        rw [hfl]
        have := Nat.mul_le_mul_right sz k2
        rw [Nat.succ_mul] at this
        exact this
      rw [if_pos ⟨k1, this, k3⟩]
      rw [flat_set es p.1 _ hs k1 k2] at g1
      exact g1
    · cases h1

theorem made_row (h : Heaps w c H) {n : Nat} (hn : ¬ c.A n) {sz K : Nat} {es : List (List V)} {C : Array Value} {t : TypeId} {cl : Bool} (hK : es.length ≤ K) (hb : K * sz ≤ C.size) (hs : ∀ (i : Nat) (e : List V), es[i]? = some e → e.length = sz)
    (hR : Rs w (if cl then c.bare else c) es.flatten (C.toList.take (es.length * sz))) (hc : es.flatten.all isCell = true) :
    Step w c H { w with heap := w.heap.push (.cells C t) } (c.add n ⟨w.heap.size, 0, sz, K⟩) (updH H n (some (.row sz true cl es))) ∧
      R { w with heap := w.heap.push (.cells C t) } (c.add n ⟨w.heap.size, 0, sz, K⟩) (.sl n sz 0 es.length) (.slice (some ⟨w.heap.size, 0, none⟩) es.length K) := by
  refine ⟨made_cells h hn _ _ rfl rfl fun hk he => lies_row rfl hK (push_last _ _) (by simpa using hb) hs ?_ hc, ?_⟩
  · have hR' : Rs { w with heap := w.heap.push (.cells C t) } (if cl then (c.add n ⟨w.heap.size, 0, sz, K⟩).bare else c.add n ⟨w.heap.size, 0, sz, K⟩) es.flatten (C.toList.take (es.length * sz)) := by
      cases cl with
      | true => exact Rs.ext he.bare hk hR
      | false => exact Rs.ext he hk hR
    simpa using hR'
  · exact .sl ⟨add_A, _, _, rfl, hK, fun _ => by simp, fun l hl => by
      rw [add_same] at hl
      cases hl
      exact ⟨rfl, by simp, fun _ => by simp⟩⟩

theorem made_bsl (h : Heaps w c H) {n : Nat} (hn : ¬ c.A n) {t e : TypeId} {len : Nat} {ps : Array (Nat × Operand)} (hop : op.op = .buildSlice t len ps) (hu : P.underlying t = some (.slice e)) {i : TypeInfo} (hi : P.info? e = some i) {zr : V} (hz : zeroV P e = some zr)
    {qs : List (Nat × Opd)} (hq : mapO (fun p => (cOpd p.2).map fun x => (p.1, x)) ps.toList = some qs) (h0 : i.size ≠ 0) (h1 : len * i.size ≤ 2 ^ 24) (h2 : zr.cells.length = i.size) (hE : EnvR w c env a) {es : List (List V)}
    (hf : qs.foldlM (fun es p => if (opd env p.2).cells.length = i.size ∧ p.1 < es.length ∧ (opd env p.2).cells.all isCell = true then some (es.set p.1 (opd env p.2).cells) else none) (List.replicate len zr.cells) = some es) :
    Made P w c H a op n (.sl n i.size 0 len) (.row i.size true (!(es.any fun e => e.any hasRef)) es) := by
  obtain ⟨i', zv, hi', hzv, _, hzR, hzc, _⟩ := zero_sound (w := w) (c := c) hz
  rw [hi] at hi'
  cases hi'
  have hall : ∀ (j : Nat) (e : List V), (List.replicate len zr.cells)[j]? = some e → e.length = i.size := by
    intro j e he
    rw [List.getElem?_replicate] at he
    split at he
    · cases he; exact h2
    · cases he
  have hf' := (foldlM_map (fun es (p : Nat × V) => if p.2.cells.length = i.size ∧ p.1 < es.length ∧ p.2.cells.all isCell = true then some (es.set p.1 p.2.cells) else none) (fun (p : Nat × Opd) => (p.1, opd env p.2)) qs (List.replicate len zr.cells)).symm.trans hf
  obtain ⟨g1, g2, g3⟩ := rows_fold _ _ _ hall hf'
  have g2' : es.length = len := by rw [g2]; simp
  have hzf := zeros_flat (w := w) (c := c) zr.cells zv.cells len hzR
  have hzcell : (List.replicate len zr.cells).flatten.all isCell = true := by
    rw [List.all_flatten]
    simp only [List.all_eq_true, List.mem_replicate]
    rintro e ⟨_, rfl⟩
    exact List.all_eq_true.1 hzc
  have hparts : PartsR w c (fun j => some (j * i.size, i.size)) ((qs.map fun p => (p.1, opd env p.2)).map fun p => (p.1 * i.size, i.size, p.2)) (ps.toList.map fun p => (p.1, a.eval p.2)) := by
    clear hf hf' g1 g2 g3 hop
    generalize ps.toList = l at hq
    induction l generalizing qs with
    | nil => cases hq; trivial
    | cons p l ih =>
      simp only [mapO, Option.bind_eq_some_iff, Option.map_eq_some_iff] at hq
      obtain ⟨y, ⟨x, hx, rfl⟩, ys, hys, he⟩ := hq
      cases he
      exact ⟨rfl, opd_sound hE hx, ih hys⟩
  obtain ⟨cells', k1, k2, k3⟩ := fill_sound _ _ _ _ _ hparts hzf hzcell g1
  have hlen : cells'.size = len * i.size := by
    have := k2.1
    rw [flat_len es g3, g2'] at this
    simpa using this.symm
  have hrun : (Instr.buildSlice t len (ps.map fun (j, x) => (j, a.eval x))).run P w = .ok (.slice (some ⟨w.heap.size, 0, none⟩) len len) { w with heap := w.heap.push (.cells cells' e) } := by
    have hpl : (ps.map fun (x : Nat × Operand) => (x.1, a.eval x.2)).toList = ps.toList.map fun p => (p.1, a.eval p.2) := by simp
    have hsz : zv.cells.size = i.size := by have := hzR.1; simp at this; omega
    rw [h2] at k1
    by_cases hp : len * i.size = 0
    · have hl0 : len = 0 := by rcases Nat.mul_eq_zero.1 hp with h | h
                               · exact h
                               · exact absurd h h0
      subst hl0
      simp only [Instr.buildSlice, Sem.run_bind, run_underlying hu, Result.andThen_ok, sizeOf, typeInfo, run_program, hi, Sem.run_pure, Nat.zero_mul, hpl]
      have hr0 : Array.range 0 = #[] := rfl
      simp only [Nat.zero_mul, hr0, List.map_toArray, List.map_nil] at k1
      simp only [hr0, List.map_toArray, List.map_nil]
      rw [k1]
      simp [newRow]
    · have hns : ¬ len * i.size > 2 ^ 24 := by omega
      simp only [Instr.buildSlice, Sem.run_bind, run_underlying hu, Result.andThen_ok, sizeOf, typeInfo, run_program, hi, Sem.run_pure, hpl]
      simp [hns, hp, zeroValue, typeInfo, hi, hzv, k1, newRow]
  have hcl : Rs w (if (!(es.any fun e => e.any hasRef)) = true then c.bare else c) es.flatten (cells'.toList.take (es.length * i.size)) := by
    rw [g2', List.take_of_length_le (by simp [hlen])]
    cases hb : (es.any fun e => e.any hasRef) with
    | true => exact k2
    | false =>
      refine ⟨k2.1, fun j x v hj hv => (k2.2 j x v hj hv).bare_of_noRef ?_⟩
      have hm := List.mem_of_getElem? hj
      obtain ⟨e0, he0, hx0⟩ := List.mem_flatten.1 hm
      rw [List.any_eq_false] at hb
      have := hb e0 he0
      simp only [Bool.not_eq_true, List.any_eq_false] at this
      simpa using this x hx0
  obtain ⟨s1, s2⟩ := made_row (t := e) h hn (K := len) (by omega) (by omega) g3 hcl k3
  rw [g2'] at s2
  refine ⟨_, _, _, ?_, s1, s2⟩
  simp [execOp, hop, hrun]

theorem rep_len {zs : List V} {n m : Nat} (h : zs.length = m) : ∀ (j : Nat) (e : List V), (List.replicate n zs)[j]? = some e → e.length = m := by
  intro j e he
  rw [List.getElem?_replicate] at he
  split at he
  · cases he; exact h
  · cases he
theorem rep_cell {zs : List V} {n : Nat} (h : zs.all isCell = true) : (List.replicate n zs).flatten.all isCell = true := by
  rw [List.all_flatten]
  simp only [List.all_eq_true, List.mem_replicate]
  rintro e ⟨_, rfl⟩
  exact List.all_eq_true.1 h
theorem rep_take {zs : List V} {n k : Nat} (hk : k ≤ n) : (List.replicate n zs).flatten.take (k * zs.length) = (List.replicate k zs).flatten := by
  obtain ⟨d, rfl⟩ := Nat.le.dest hk
  rw [← List.replicate_append_replicate, List.flatten_append]
  rw [List.take_append_of_le_length (by simp), List.take_of_length_le (by simp)]

theorem vOf_noRef (v : Value) : hasRef (vOf v) = false := by
  unfold vOf
  split <;> rfl
theorem zero_noRef {e : TypeId} {zr : V} (hz : zeroV P e = some zr) : ∀ x ∈ zr.cells, hasRef x = false := by
  obtain ⟨_, zv, _, _, _, _, _, he⟩ := zero_sound (w := default) (c := ⟨fun _ => none, fun _ => False, fun _ => False, fun _ => False⟩) hz
  subst he
  intro x hx
  unfold vOfs at hx
  split at hx
  · simp only [V.cells, List.mem_map] at hx
    obtain ⟨y, _, rfl⟩ := hx
    exact vOf_noRef y
  · have : (vOf zv).cells = [vOf zv] := by
      unfold vOf
      split <;> rfl
    rw [this] at hx
    simp at hx
    subst hx
    exact vOf_noRef _

theorem made_msl (h : Heaps w c H) {n : Nat} (hn : ¬ c.A n) {t e : TypeId} {lo co : Operand} (hop : op.op = .makeSlice t lo co) (hu : P.underlying t = some (.slice e)) {i : TypeInfo} (hi : P.info? e = some i) {zr : V} (hz : zeroV P e = some zr)
    {lx cx : Opd} (hlx : cOpd lo = some lx) (hcx : cOpd co = some cx) (h2 : zr.cells.length = i.size) (hE : EnvR w c env a) {kl kc : IntKind} {l k : Int} (hl : opd env lx = .int kl l) (hk : opd env cx = .int kc k)
    (h0 : 0 ≤ l) (hlk : l ≤ k) (hb : k * i.bytes ≤ room) (h63 : k < 9223372036854775808) :
    Made P w c H a op n (.sl n i.size 0 l.toNat) (.row i.size true true (List.replicate l.toNat zr.cells)) := by
  obtain ⟨i', zv, hi', hzv, _, hzR, hzc, _⟩ := zero_sound (w := w) (c := c) hz
  rw [hi] at hi'
  cases hi'
  have el : a.eval lo = .int kl l := by
    have := opd_sound hE hlx
    rw [hl] at this
    exact this.int_inv
  have ek : a.eval co = .int kc k := by
    have := opd_sound hE hcx
    rw [hk] at this
    exact this.int_inv
  have hrun := run_make (P := P) w t e i zv hu hi hzv kl kc l k h0 hlk (by have : k * (i.bytes : Int) = (i.bytes : Int) * k := Int.mul_comm _ _; unfold room at hb; omega) (by omega)
  have hsz : zv.cells.size = i.size := by have := hzR.1; simp at this; omega
  have hsize : (madeCells zv.cells (k.toNat * i.size)).size = k.toNat * i.size := size_madeCells _ _
  have hrows := zeros_flat (w := w) (c := c) zr.cells zv.cells k.toNat hzR
  have hlk' : l.toNat ≤ k.toNat := by omega
  have hR : Rs w c (List.replicate l.toNat zr.cells).flatten ((madeCells zv.cells (k.toNat * i.size)).toList.take (l.toNat * i.size)) := by
    have := hrows.take (l.toNat * zr.cells.length)
    rw [rep_take hlk', h2] at this
    exact this
  have hR' : Rs w (if (true : Bool) = true then c.bare else c) (List.replicate l.toNat zr.cells).flatten ((madeCells zv.cells (k.toNat * i.size)).toList.take ((List.replicate l.toNat zr.cells).length * i.size)) := by
    rw [List.length_replicate]
    refine ⟨hR.1, fun j x v hj hv => (hR.2 j x v hj hv).bare_of_noRef ?_⟩
    have hm := List.mem_of_getElem? hj
    obtain ⟨e0, he0, hx0⟩ := List.mem_flatten.1 hm
    rw [List.mem_replicate] at he0
    rw [he0.2] at hx0
    exact zero_noRef (P := P) hz x hx0
  obtain ⟨s1, s2⟩ := made_row (t := e) h hn (K := k.toNat) (by simpa using hlk') (by rw [hsize]; exact Nat.le_refl _) (rep_len h2) hR' (rep_cell hzc)
  rw [List.length_replicate] at s2
  refine ⟨_, _, _, ?_, s1, s2⟩
  simp only [execOp, hop, el, ek, Sem.run_bind, hrun]
  rfl

end

/-! ### Which operation becomes which -/
def kind : COp → Nat
  | .ld _ _ _ => 1
  | .look _ _ _ _ _ => 2
  | .lenm _ => 3
  | .b2s _ => 4
  | .box _ => 5
  | .alo _ => 6
  | .bsl _ _ _ _ => 7
  | .msl _ _ _ _ _ => 8
  | .mkm => 9
  | .st _ _ _ => 10
  | .app _ _ _ _ => 11
  | .cpy _ _ _ => 12
  | .mup _ _ _ _ => 13
  | .call _ _ => 14
  | .callv _ _ => 15
  | .apn _ _ _ _ _ => 16
  | _ => 0
def kindsOf : Op → List Nat
  | .load _ _ => [1]
  | .lookup _ _ _ _ => [2]
  | .convert _ _ _ => [0, 4]
  | .box _ _ => [5]
  | .alloc _ => [6]
  | .buildSlice _ _ _ => [7]
  | .makeSlice _ _ _ => [8]
  | .makeMap _ _ => [9]
  | .store _ _ _ => [10]
  | .mapUpdate _ _ _ _ => [13]
  | .call _ => [0, 3, 11, 12, 14, 15, 16]
  | _ => [0]

def OkO {α : Type} (p : α → Prop) (o : Option α) : Prop := ∀ x, o = some x → p x
theorem OkO.none {α : Type} {p : α → Prop} : OkO p none := fun _ h => by cases h
theorem OkO.some {α : Type} {p : α → Prop} {x : α} (h : p x) : OkO p (some x) := fun _ e => by cases e; exact h
theorem OkO.bind {α β : Type} {p : β → Prop} {o : Option α} {f : α → Option β} (h : ∀ x, OkO p (f x)) : OkO p (o.bind f) := fun y e => by
  obtain ⟨x, _, hx⟩ := Option.bind_eq_some_iff.1 e
  exact h x y hx
theorem OkO.map {α β : Type} {p : β → Prop} {o : Option α} {f : α → β} (h : ∀ x, p (f x)) : OkO p (o.map f) := fun y e => by
  obtain ⟨x, _, rfl⟩ := Option.map_eq_some_iff.1 e
  exact h x
theorem OkO.opt {α : Type} {p : α → Prop} {b : Bool} {x : α} (h : p x) : OkO p (opt b x) := fun y e => by
  unfold Fm.opt at e
  split at e
  · cases e; exact h
  · cases e

theorem cOp_kind {P : Program} {g : Op} {o : COp} (hc : cOp P g = some o) : kind o ∈ kindsOf g := by
  have : OkO (fun o => kind o ∈ kindsOf g) (cOp P g) := by
    unfold cOp cBin cCall
    repeat' first
      | exact OkO.none
      | exact OkO.some (by simp [kind, kindsOf])
      | exact OkO.map (fun _ => by simp [kind, kindsOf])
      | exact OkO.opt (by simp [kind, kindsOf])
      | (refine OkO.bind fun _ => ?_)
      | split
  exact this o hc

section
variable {P : Program} {w : World} {c : Cx} {H : HeapF} {env : Nat → V} {a : Act} {op : Oper}
/-- Operations that make something new, all. -/
theorem new_sound (h : Heaps w c H) {n : Nat} (hn : ¬ c.A n) {g : Op} {o : COp} (hg : cOp P g = some o) (hop : op.op = g) (hE : EnvR w c env a) {p : (Nat → V) × Thing} (hp : newOp (opd env) o = some p) : Made P w c H a op n (p.1 n) p.2 := by
  have hk := cOp_kind hg
  cases o <;> try (cases hp; done)
  case box x =>
    cases g <;> first | (exfalso; revert hk; simp [kindsOf, kind]; done) | skip
    obtain ⟨y, hy, he⟩ := Option.map_eq_some_iff.1 hg
    cases he
    simp only [newOp] at hp
    split at hp
    · rename_i hc
      cases hp
      exact made_box h hn hop hy hE hc
    · cases hp
  case alo zr =>
    cases g <;> first | (exfalso; revert hk; simp [kindsOf, kind]; done) | skip
    obtain ⟨y, hy, he⟩ := Option.map_eq_some_iff.1 hg
    cases he
    cases hp
    exact made_alo h hn hop hy
  case mkm =>
    cases g <;> first | (exfalso; revert hk; simp [kindsOf, kind]; done) | skip
    rename_i t r
    cases r with
    | none => cases hp; exact made_mkm h hn hop
    | some r => cases hg
  case bsl sz len zero ps =>
    cases g <;> first | (exfalso; revert hk; simp [kindsOf, kind]; done) | skip
    simp only [cOp] at hg
    split at hg
    · rename_i e hu
      obtain ⟨i, hi, hg⟩ := Option.bind_eq_some_iff.1 hg
      obtain ⟨zr, hz, hg⟩ := Option.bind_eq_some_iff.1 hg
      obtain ⟨qs, hq, hg⟩ := Option.bind_eq_some_iff.1 hg
      obtain ⟨hb, he⟩ := opt_some hg
      cases he
      simp only [Bool.and_eq_true, bne_iff_ne, ne_eq, decide_eq_true_eq, beq_iff_eq] at hb
      obtain ⟨⟨b1, b2⟩, b3⟩ := hb
      obtain ⟨es, hf, rfl⟩ := Option.map_eq_some_iff.1 hp
      exact made_bsl h hn hop hu hi hz hq b1 b2 b3 hE hf
    · cases hg
  case msl sz bytes zero len cap =>
    cases g <;> first | (exfalso; revert hk; simp [kindsOf, kind]; done) | skip
    simp only [cOp] at hg
    split at hg
    · rename_i e hu
      obtain ⟨i, hi, hg⟩ := Option.bind_eq_some_iff.1 hg
      obtain ⟨zr, hz, hg⟩ := Option.bind_eq_some_iff.1 hg
      obtain ⟨lx, hlx, hg⟩ := Option.bind_eq_some_iff.1 hg
      obtain ⟨cx, hcx, hg⟩ := Option.bind_eq_some_iff.1 hg
      obtain ⟨hb, he⟩ := opt_some hg
      cases he
      simp only [Bool.and_eq_true, bne_iff_ne, ne_eq, beq_iff_eq] at hb
      simp only [newOp] at hp
      split at hp
      · rename_i kl l kc k hl hk'
        split at hp
        · rename_i hcond
          obtain ⟨c1, c2, c3, c4⟩ := hcond
          cases hp
          exact made_msl h hn hop hu hi hz hlx hcx hb.2 hE hl hk' c1 c2 c3 c4
        · cases hp
      · cases hp
    · cases hg
end
end Go.Fm
end

section
/- FM: looks into maps, lengths, texts out of bytes. -/
set_option autoImplicit false
namespace Go.Fm

section
variable {P : Program} {w : World} {c : Cx} {H : HeapF} {env : Nat → V} {a : Act} {op : Oper} {v : V}

theorem check_scal {k : Sk} {t : TypeId} (ht : scalT P t = some k) (em : Bool) (n : Nat) (u : Value) : (Instr.checkKey em (n + 1) t u).run P w = .ok () w := by
  unfold scalT und at ht
  cases hu : P.underlying t with
  | none => rw [hu] at ht; cases ht
  | some de =>
    rw [hu] at ht
    cases de <;> simp only [reduceCtorEq, Option.some.injEq] at ht <;> simp [Instr.checkKey, run_underlying hu]

theorem mapO_all {α β : Type} {f : α → Option β} : ∀ {xs : List α} {ys : List β}, mapO f xs = some ys → ∀ (j : Nat) (x : α), xs[j]? = some x → ∃ y, ys[j]? = some y ∧ f x = some y
  | [], ys, h, j, x, hj => by simp at hj
  | x0 :: xs, ys, h, j, x, hj => by
    simp only [mapO, Option.bind_eq_some_iff] at h
    obtain ⟨y', hy, ys', h', he⟩ := h
    cases he
    cases j with
    | zero => simp at hj; subst hj; exact ⟨y', rfl, hy⟩
    | succ j => simp at hj; obtain ⟨y, h1, h2⟩ := mapO_all h' j x hj; exact ⟨y, by simpa using h1, h2⟩

theorem ceqs_len : ∀ {ks : List Sk} {xs ys : List V} {b : Bool}, ceqs ks xs ys = some b → xs.length = ks.length ∧ ys.length = ks.length
  | [], [], [], _, _ => ⟨rfl, rfl⟩
  | k :: ks, x :: xs, y :: ys, b, h => by
    simp only [ceqs, Option.bind_eq_some_iff] at h
    obtain ⟨_, _, _, h2, _⟩ := h
    obtain ⟨g1, g2⟩ := ceqs_len h2
    simp [g1, g2]
  | [], [], _ :: _, _, h => by simp [ceqs] at h
  | [], _ :: _, _, _, h => by simp [ceqs] at h
  | _ :: _, [], _, _, h => by simp [ceqs] at h
  | _ :: _, _ :: _, [], _, h => by simp [ceqs] at h

theorem check_flat {t : TypeId} {ks : List Sk} (ht : flatT P t = some ks) {vs : Array Value} (hl : vs.size = ks.length) (em : Bool) (n : Nat) : (Instr.checkKey em (n + 2) t (.agg vs)).run P w = .ok () w := by
  unfold flatT und at ht
  cases hu : P.underlying t with
  | none => rw [hu] at ht; cases ht
  | some de =>
    rw [hu] at ht
    cases de <;> simp only [reduceCtorEq] at ht
    case struct fs =>
      split at ht
      · rename_i hc
        simp only [Bool.and_eq_true, Bool.not_eq_true', List.all_eq_true] at hc
        obtain ⟨⟨hf, _⟩, _⟩ := hc
        have each : ∀ f ∈ fs.toList, ∃ k v, scalT P f.type = some k ∧ vs[f.offset]? = some v := by
          intro f hm
          obtain ⟨j, hj⟩ := List.mem_iff_getElem?.1 hm
          obtain ⟨k, hk, hs⟩ := mapO_all ht j f hj
          have hm' : (f, j) ∈ fs.toList.zipIdx := by
            rw [List.mem_zipIdx_iff_getElem?]
            exact hj
          have := hf _ hm'
          simp only [beq_iff_eq, bne_iff_ne] at this
          have hjl : j < vs.size := by rw [hl]; exact (List.getElem?_eq_some_iff.1 hk).1
          exact ⟨k, vs[j], hs, by rw [this.1]; exact Array.getElem?_eq_getElem hjl⟩
        rw [Instr.checkKey]
        simp only [Sem.run_bind, run_underlying hu, Result.andThen_ok]
        rw [← Array.forIn_toList]
        clear ht hf hu
        generalize fs.toList = l at each
        induction l with
        | nil => simp
        | cons f l ih =>
          obtain ⟨k, v, hs, hv⟩ := each f (by simp)
          have hp := part_scal (w := w) hs hv
          have hc := check_scal (P := P) (w := w) hs em n v
          have ih' := ih fun g hg => each g (List.mem_cons_of_mem _ hg)
          simp only [List.forIn_cons, Sem.run_bind]
          by_cases hn : f.name ≠ "_"
          · simp only [if_pos hn, Sem.run_bind, hp, Result.andThen_ok, hc, Sem.run_pure]
            exact ih'
          · simp only [if_neg hn, Result.andThen_ok, Sem.run_pure]
            exact ih'
      · cases ht
    case array m e =>
      split at ht
      · rename_i hc
        simp only [Bool.and_eq_true, Bool.not_eq_true', beq_iff_eq] at hc
        unfold inf at hc
        obtain ⟨k, hk, hr⟩ := Option.map_eq_some_iff.1 ht
        subst hr
        cases hi : P.info? e with
        | none => rw [hi] at hc; simp at hc
        | some i =>
          rw [hi] at hc
          have h1 : i.size = 1 := by simpa using hc.1
          have hm : vs.size = m := by simpa using hl
          rw [Instr.checkKey]
          simp only [Sem.run_bind, run_underlying hu, Result.andThen_ok]
          simp only [Std.Legacy.Range.forIn_eq_forIn_range', Std.Legacy.Range.size, Nat.sub_zero, Nat.add_one_sub_one, Nat.div_one]
          have each : ∀ j ∈ List.range' 0 m, j < vs.size := by
            intro j hj
            simp only [List.mem_range', Nat.one_mul, Nat.zero_add] at hj
            obtain ⟨q, hq, rfl⟩ := hj
            omega
          generalize List.range' 0 m = l at each
          induction l with
          | nil => simp
          | cons j l ih =>
            have hj := each j (by simp)
            have hce : P.cellsOf e = 1 := by simp [Program.cellsOf, hi, h1]
            have hv : vs[j * P.cellsOf e]? = some vs[j] := by rw [hce, Nat.mul_one]; exact Array.getElem?_eq_getElem hj
            have hp := part_scal (w := w) hk hv
            have hcs := check_scal (P := P) (w := w) hk em n vs[j]
            simp only [List.forIn_cons, Sem.run_bind, run_sizeOf w hi, Result.andThen_ok, hp, hcs, Sem.run_pure]
            exact ih fun y hy => each y (List.mem_cons_of_mem _ hy)
      · cases ht

theorem check_key {kt : TypeId} {kk : Kk} (hk : keyT P kt = some kk) {x : V} {u : Value} (hR : R w c x u) (h : isKey kk x = true) (em : Bool) : (Instr.checkKey em 10000 kt u).run P w = .ok () w := by
  unfold keyT at hk
  cases hs : scalT P kt with
  | some k => exact check_scal hs em 9999 u
  | none =>
    rw [hs] at hk
    obtain ⟨ks, hf, rfl⟩ := Option.map_eq_some_iff.1 hk
    unfold isKey keq at h
    cases x <;> simp only [Option.isSome_none, Bool.false_eq_true] at h
    rename_i xs
    obtain ⟨vs, rfl, hvs, _⟩ := hR.agg_inv
    obtain ⟨b, hb⟩ := Option.isSome_iff_exists.1 h
    have := (ceqs_len hb).1
    exact check_flat hf (by have := hvs.1; simp at this; omega) em 9998

theorem key_equal {kt : TypeId} {kk : Kk} (hk : keyT P kt = some kk) {x y : V} {u v : Value} (hx : R w c x u) (hy : R w c y v) {b : Bool} (h : keq kk x y = some b) : (Op.equal kt u v).run P w = .ok b w := by
  unfold keyT at hk
  cases hs : scalT P kt with
  | some k =>
    rw [hs] at hk
    cases hk
    exact run_equalIn_any hx hy h 9999 kt hs
  | none =>
    rw [hs] at hk
    obtain ⟨ks, hf, rfl⟩ := Option.map_eq_some_iff.1 hk
    unfold keq at h
    cases x <;> simp only [reduceCtorEq] at h
    cases y <;> simp only [reduceCtorEq] at h
    obtain ⟨vs, rfl, hvs, _⟩ := hx.agg_inv
    obtain ⟨us, rfl, hus, _⟩ := hy.agg_inv
    exact (flat_sound hf hvs hus h).1

/-- The entries of a map, place by place. -/
def Ents (w : World) (c : Cx) (es : List (V × V)) (l : List MapEntry) : Prop :=
  l.length = es.length ∧ ∀ (i : Nat) (k x : V) (e : MapEntry), es[i]? = some (k, x) → l[i]? = some e → R w c k e.key ∧ R w c x e.val
theorem Ents.tail {p : V × V} {e : MapEntry} {es : List (V × V)} {l : List MapEntry} (h : Ents w c (p :: es) (e :: l)) : Ents w c es l :=
  ⟨by simpa using h.1, fun i k x e' h1 h2 => h.2 (i + 1) k x e' (by simpa using h1) (by simpa using h2)⟩

/-- What is found. -/
def Found (kk : Kk) (key : V) (es : List (V × V)) (l : List MapEntry) (i0 : Nat) (r : Option V) (q : Option (Nat × Value)) : Prop :=
  (r = none ∧ q = none) ∨ ∃ i k x e, r = some x ∧ q = some (i0 + i, e.val) ∧ es[i]? = some (k, x) ∧ l[i]? = some e ∧ keq kk key k = some true ∧ ∀ j, j < i → ∀ k' x', es[j]? = some (k', x') → keq kk key k' = some false
theorem Found.skip {kk : Kk} {key : V} {p : V × V} {e : MapEntry} {es : List (V × V)} {l : List MapEntry} {i0 : Nat} {r : Option V} {q : Option (Nat × Value)} (hp : keq kk key p.1 = some false) (h : Found kk key es l (i0 + 1) r q) : Found kk key (p :: es) (e :: l) i0 r q := by
  rcases h with h | ⟨i, k, x, e', h1, h2, h3, h4, h5, h6⟩
  · exact .inl h
  · refine .inr ⟨i + 1, k, x, e', h1, by rw [h2]; congr 2; omega, by simpa using h3, by simpa using h4, h5, fun j hj k' x' hk => ?_⟩
    cases j with
    | zero => simp at hk; subst hk; exact hp
    | succ j => exact h6 j (by omega) k' x' (by simpa using hk)

theorem asking_sound {kt : TypeId} {kk : Kk} (hk : keyT P kt = some kk) {k : V} {u : Value} (hu : R w c k u) : ∀ (es : List (V × V)) (l : List MapEntry) (i0 : Nat) (r : Option V), Ents w c es l → mapGet kk es k = some r →
    ∃ q, (Instr.findAsking kt u l i0).run P w = .ok q w ∧ Found kk k es l i0 r q
  | [], [], i0, r, _, h => by
    cases h
    exact ⟨none, by simp [Instr.findAsking], .inl ⟨rfl, rfl⟩⟩
  | (k', x) :: es, e :: l, i0, r, hE, h => by
    simp only [mapGet, Option.bind_eq_some_iff] at h
    obtain ⟨b, hb, h⟩ := h
    obtain ⟨hk', hx⟩ := hE.2 0 k' x e rfl rfl
    have he : (Op.equal kt u e.key).run P w = .ok b w := key_equal hk hu hk' hb
    cases b with
    | true =>
      simp only [if_true, Option.some.injEq] at h
      subst h
      exact ⟨some (i0, e.val), by simp [Instr.findAsking, he], .inr ⟨0, k', x, e, rfl, rfl, rfl, rfl, hb, fun j hj => by omega⟩⟩
    | false =>
      simp only [Bool.false_eq_true, if_false] at h
      obtain ⟨q, h1, h2⟩ := asking_sound hk hu es l (i0 + 1) r hE.tail h
      exact ⟨q, by simp [Instr.findAsking, he, h1], h2.skip hb⟩
  | [], _ :: _, _, _, hE, _ => by have := hE.1; simp at this
  | _ :: _, [], _, _, hE, _ => by have := hE.1; simp at this

/-- Plain kinds: found at once. -/
theorem now_sound {kt : TypeId} {sk : Sk} {d : TypeDesc} (hs : scalT P kt = some sk) (hd : P.underlying kt = some d) {k : V} {u : Value} (hu : R w c k u) : ∀ (es : List (V × V)) (l : List MapEntry) (i0 : Nat) (r : Option V), Ents w c es l → mapGet (.one sk) es k = some r →
    ∃ q, Instr.findNow d u l i0 = some q ∧ Found (.one sk) k es l i0 r q
  | [], [], i0, r, _, h => by
    cases h
    exact ⟨none, by simp [Instr.findNow], .inl ⟨rfl, rfl⟩⟩
  | (k', x) :: es, e :: l, i0, r, hE, h => by
    simp only [mapGet, Option.bind_eq_some_iff] at h
    obtain ⟨b, hb, h⟩ := h
    obtain ⟨hk', hx⟩ := hE.2 0 k' x e rfl rfl
    have he : Instr.sameNow d u e.key = some b := by
      unfold scalT und at hs
      rw [hd] at hs
      simp only [keq] at hb
      cases sk <;> cases k <;> cases k' <;> simp only [ceq, reduceCtorEq] at hb
      · rw [hu.int_inv, hk'.int_inv]
        cases d <;> simp only [reduceCtorEq, Option.some.injEq] at hs
        simpa [Instr.sameNow] using hb
      · rw [hu.str_inv, hk'.str_inv]
        cases d <;> simp only [reduceCtorEq, Option.some.injEq] at hs
        simp only [Instr.sameNow]
        rw [← hb]
        congr 1
        rename_i s s'
        show (s.toArray == s'.toArray) = (s == s')
        rw [Bool.eq_iff_iff]
        simp
      · rw [hu.bool_inv, hk'.bool_inv]
        cases d <;> simp only [reduceCtorEq, Option.some.injEq] at hs
        simpa [Instr.sameNow] using hb
    cases b with
    | true =>
      simp only [if_true, Option.some.injEq] at h
      subst h
      exact ⟨some (i0, e.val), by simp [Instr.findNow, he], .inr ⟨0, k', x, e, rfl, rfl, rfl, rfl, hb, fun j hj => by omega⟩⟩
    | false =>
      simp only [Bool.false_eq_true, if_false] at h
      obtain ⟨q, h1, h2⟩ := now_sound hs hd hu es l (i0 + 1) r hE.tail h
      exact ⟨q, by simp [Instr.findNow, he, h1], h2.skip hb⟩
  | [], _ :: _, _, _, hE, _ => by have := hE.1; simp at this
  | _ :: _, [], _, _, hE, _ => by have := hE.1; simp at this

theorem find_sound {kt : TypeId} {kk : Kk} (hk : keyT P kt = some kk) {k : V} {u : Value} (hu : R w c k u) {es : List (V × V)} {l : List MapEntry} {r : Option V} (hE : Ents w c es l) (h : mapGet kk es k = some r) :
    ∃ q, (Instr.findKey kt u l).run P w = .ok q w ∧ Found kk k es l 0 r q := by
  cases hs : scalT P kt with
  | some sk =>
    have hk' := hk
    unfold keyT at hk'
    rw [hs] at hk'
    cases hk'
    cases hd : P.underlying kt with
    | none => unfold scalT und at hs; rw [hd] at hs; cases hs
    | some d =>
      obtain ⟨q, h1, h2⟩ := now_sound hs hd hu es l 0 r hE h
      exact ⟨q, by simp [Instr.findKey, run_underlying hd, h1], h2⟩
  | none =>
    cases hd : P.underlying kt with
    | none =>
      unfold keyT at hk
      rw [hs] at hk
      obtain ⟨ks, hf, _⟩ := Option.map_eq_some_iff.1 hk
      unfold flatT und at hf
      rw [hd] at hf
      cases hf
    | some d =>
      cases hn : Instr.findNow d u l 0 with
      | none =>
        obtain ⟨q, h1, h2⟩ := asking_sound hk hu es l 0 r hE h
        exact ⟨q, by simp [Instr.findKey, run_underlying hd, hn, h1], h2⟩
      | some q =>
        -- nothing plain: only an empty map is looked through at once
        cases l with
        | nil =>
          cases es with
          | cons p es => have := hE.1; simp at this
          | nil =>
            cases h
            simp [Instr.findNow] at hn
            subst hn
            exact ⟨none, by simp [Instr.findKey, run_underlying hd, Instr.findNow], .inl ⟨rfl, rfl⟩⟩
        | cons e l =>
          exfalso
          unfold keyT at hk
          rw [hs] at hk
          obtain ⟨ks, hf, rfl⟩ := Option.map_eq_some_iff.1 hk
          unfold flatT und at hf
          rw [hd] at hf
          cases d <;> simp only [reduceCtorEq] at hf <;> simp [Instr.findNow, Instr.sameNow] at hn

/-- The entries that a map stands for. -/
theorem mapOf_sound (h : Heaps w c H) {v : V} {u : Value} (hR : R w c v u) {es : List (V × V)} (hm : mapOf H v = some es) :
    (u = .map none ∧ es = []) ∨ ∃ r ents clock, u = .map (some r) ∧ w.heap[r]? = some (.map ents clock) ∧ Ents w c.bare es ents.toList := by
  unfold mapOf at hm
  split at hm
  · rename_i id
    split at hm
    · rename_i wr es' hth
      cases hm
      cases hR with
      | mp hp =>
        obtain ⟨hA, r, rfl, hl⟩ := hp
        obtain ⟨l, hμ, hK, ents, clock, hE, hlen, hent⟩ := h.loc hth
        have := hl l hμ
        subst this
        exact .inr ⟨_, ents, clock, rfl, hE, by simpa using hlen, fun i k x e h1 h2 => hent i k x e h1 (by simpa using h2)⟩
    · cases hm
  · split at hm
    · cases hm
      cases hR with
      | map ents clock hf hA hmm hl hk hr =>
        exact .inr ⟨_, ents, clock, rfl, hmm, by simpa using hl, fun i k x e h1 h2 => ⟨hk i k x e h1 (by simpa using h2), hr i k x e h1 (by simpa using h2)⟩⟩
    · cases hm
  · cases hm
    cases hR
    exact .inl ⟨rfl, rfl⟩
  · cases hm

theorem Ents.up {es : List (V × V)} {l : List MapEntry} (h : Ents w c.bare es l) : Ents w c es l :=
  ⟨h.1, fun i k x e h1 h2 => ⟨(h.2 i k x e h1 h2).1.up, (h.2 i k x e h1 h2).2.up⟩⟩

theorem p_look (h : Heaps w c H) {t kt e : TypeId} {x k : Operand} {ok : Bool} (hop : op.op = .lookup t x k ok) (hu : P.underlying t = some (.map kt e)) {x' k' : Opd} (hx : cOpd x = some x') (hk : cOpd k = some k') {zr : V} (hz : zeroV P e = some zr)
    {kk : Kk} (hkk : keyT P kt = some kk) (hE : EnvR w c env a) {es : List (V × V)} (hm : mapOf H (opd env x') = some es) (hkey : isKey kk (opd env k') = true) {r : Option V} (hg : mapGet kk es (opd env k') = some r) :
    Pure P w c a op (if ok then .tup [r.getD zr, .bool r.isSome] else r.getD zr) := by
  obtain ⟨i, zv, hi, hzv, hzR, _, _, _⟩ := zero_sound (w := w) (c := c) hz
  have hkR := opd_sound hE hk
  have fin : ∀ (l : List MapEntry), Ents w c es l → ∃ y vv, (Instr.findKey kt (a.eval k) l).run P w = .ok y w ∧ R w c (r.getD zr) vv ∧ ((y = none ∧ vv = zv ∧ r = none) ∨ ∃ i, y = some (i, vv) ∧ r.isSome = true) := by
    intro l hl
    obtain ⟨q, h1, h2⟩ := find_sound hkk hkR hl hg
    rcases h2 with ⟨rfl, rfl⟩ | ⟨i, k0, x0, e0, rfl, rfl, h3, h4, _⟩
    · exact ⟨none, zv, h1, hzR, .inl ⟨rfl, rfl, rfl⟩⟩
    · exact ⟨_, e0.val, h1, (hl.2 i k0 x0 e0 h3 h4).2, .inr ⟨0 + i, rfl, rfl⟩⟩
  have hzero : (zeroValue e).run P w = .ok zv w := by simp [zeroValue, typeInfo, hi, hzv]
  have main : ∃ vv, (Instr.lookup t (a.eval x) (a.eval k) ok).run P w = .ok (if ok then .tuple #[vv, .bool r.isSome] else vv) w ∧ R w c (r.getD zr) vv := by
    rcases mapOf_sound h (opd_sound hE hx) hm with ⟨hx0, rfl⟩ | ⟨b, ents, clock, hx0, hb, hl⟩
    · obtain ⟨y, vv, h1, h2, h3⟩ := fin [] ⟨rfl, fun i k x e h => by simp at h⟩
      refine ⟨vv, ?_, h2⟩
      have hck := check_key (P := P) hkk hkR hkey true
      rw [hx0]
      rcases h3 with ⟨rfl, rfl, rfl⟩ | ⟨i, rfl, hs⟩
      · cases ok <;> simp [Instr.lookup, run_underlying hu, hck, h1, hzero]
      · cases ok <;> simp [Instr.lookup, run_underlying hu, hck, h1, hs]
    · obtain ⟨y, vv, h1, h2, h3⟩ := fin ents.toList hl.up
      refine ⟨vv, ?_, h2⟩
      have hck := check_key (P := P) hkk hkR hkey ents.isEmpty
      have hgo : (getObj b).run P w = .ok (.map ents clock) w := MapKept.run_getObj_map hb
      rw [hx0]
      rcases h3 with ⟨rfl, rfl, rfl⟩ | ⟨i, rfl, hs⟩
      · cases ok <;> simp [Instr.lookup, run_underlying hu, hgo, hck, h1, hzero]
      · cases ok <;> simp [Instr.lookup, run_underlying hu, hgo, hck, h1, hs]
  obtain ⟨vv, h1, h2⟩ := main
  refine ⟨_, by simp only [execOp, hop, Sem.run_bind, h1]; rfl, ?_⟩
  cases ok with
  | false => exact h2
  | true => exact R.tup_mk (Rs.cons h2 (Rs.cons (.bool _) (Rs.nil _ _)))

theorem p_lenm (h : Heaps w c H) {ts : Array TypeId} {xs : Array Operand} (hop : op.op = .call { callee := .builtin .len, args := xs, argTypes := ts }) {t kt e : TypeId} (h0 : ts[0]? = some t) (ht : P.underlying t = some (.map kt e))
    {x : Operand} (hxs : xs.toList = [x]) {x' : Opd} (hx : cOpd x = some x') (hE : EnvR w c env a) {es : List (V × V)} (hm : mapOf H (opd env x') = some es) : Pure P w c a op (.int .i64 (es.length : Int)) := by
  have hxs' : xs = #[x] := by
    apply Array.toList_inj.1
    simpa using hxs
  subst hxs'
  have he : execOp a.eval op = (do pure (Next.value (← Builtin.len_ ts op.type #[a.eval x]))) := by rw [call_builtin hop]; simp [builtin]
  rcases mapOf_sound h (opd_sound hE hx) hm with ⟨hx0, rfl⟩ | ⟨b, ents, clock, hx0, hb, hl⟩
  · rw [hx0] at he
    exact Pure.mk he (v' := .int .i64 0) (by simp [Builtin.len_, h0, run_underlying ht, goInt]) (.int _ _)
  · rw [hx0] at he
    have hgo : (getObj b).run P w = .ok (.map ents clock) w := MapKept.run_getObj_map hb
    have hs : ents.size = es.length := by have := hl.1; simpa using this
    exact Pure.mk he (v' := .int .i64 (es.length : Int)) (by simp [Builtin.len_, h0, run_underlying ht, goInt, hgo, hs]) (.int _ _)
end
end Go.Fm
end

section
/- FM: the elements of a slice that is appended, copied, read as a text. -/
set_option autoImplicit false
namespace Go.Fm

section
variable {P : Program} {w : World} {c : Cx} {H : HeapF} {env : Nat → V} {a : Act} {op : Oper} {v : V}

/-- A slice whose elements are these. -/
def ElemsAt (w : World) (c : Cx) (sz : Nat) (es : List (List V)) (u : Value) : Prop :=
  ∃ A cap, u = .slice A es.length cap ∧ es.length ≤ cap ∧ (∀ (i : Nat) (e : List V), es[i]? = some e → e.length = sz) ∧
    (es ≠ [] → ∃ b : Addr, A = some b ∧ b.spot = none ∧ ∀ (i : Nat) (e : List V) (j : Nat) (x : V), es[i]? = some e → e[j]? = some x → isCell x = true ∧ ∃ cv, w.cell? ⟨b.block, b.off + i * sz + j, none⟩ = some cv ∧ R w c.bare x cv)

/-- The slice's rows are at rest in the other view. -/
theorem elems_sound {c' : Cx} (h : Heaps w c H) (hS : ∀ b, c.Sf b → c'.Sf b) (hO : ∀ b, c.So b → c'.So b) {sz : Nat} {x : V} {u : Value} (hR : R w c x u) {es : List (List V)} {ids : List Nat} (he : elemsOf H sz x = some (es, ids)) (hop : Opened c c' H .fresh ids) :
    (ElemsAt w c' sz es u ∧ ∀ s, x ≠ .str s) ∨ ∃ s : List UInt8, x = .str s ∧ u = .string ⟨s.toArray⟩ ∧ sz = 1 ∧ es = s.map (fun b => [.int .u8 (b.toNat : Int)]) := by
  unfold elemsOf at he
  split at he
  · cases he
    cases hR
    exact .inl ⟨⟨none, 0, rfl, Nat.le_refl _, fun i e h => by simp at h, fun hn => absurd rfl hn⟩, fun s => V.noConfusion⟩
  · cases he
    cases hR with
    | z A => exact .inl ⟨⟨A, 0, rfl, Nat.le_refl _, fun i e h => by simp at h, fun hn => absurd rfl hn⟩, fun s => V.noConfusion⟩
  · split at he
    · rename_i hf
      obtain ⟨hf, rfl⟩ := hf
      cases he
      cases hR with
      | arr b cv hf' hc hs hA hx hr =>
        rename_i A cap
        refine .inl ⟨⟨A, cap, rfl, hc, hs, fun hn => ⟨b, (hA hn).1, (hA hn).2.1, fun i e j x h1 h2 => ?_⟩⟩, fun s => V.noConfusion⟩
        obtain ⟨g1, g2⟩ := hx i e j x h1 h2
        exact ⟨g1, _, g2, (hr i e j x h1 h2).ext (Ext.bares hS hO) (Keep.refl _ _)⟩
    · cases he
  · rename_i id szz off len
    split at he
    · rename_i sz' wr cl es0 hth
      split at he
      · rename_i hc
        obtain ⟨rfl, hol⟩ := hc
        obtain ⟨l, A, cap, hm, rfl, hcap, hsz, _, hK, hA, hall, hcell⟩ := row_cells h hth hR hol
        have hlen1 : ((es0.drop off).take len).length = len := by simp; omega
        have sub : ∀ (i : Nat) (e0 : List V), ((es0.drop off).take len)[i]? = some e0 → e0.length = sz' := by
          intro i e0 h0
          rw [List.getElem?_take] at h0
          split at h0
          · rw [List.getElem?_drop] at h0; exact hall _ _ h0
          · cases h0
        refine .inl ⟨?_, fun s => V.noConfusion⟩
        have pos : es ≠ [] → es.length = len → 0 < cap := by
          intro hn hl
          have : 0 < es.length := List.length_pos_iff.2 hn
          omega
        split at he
        · cases he
          rename_i hcl
          subst hcl
          refine ⟨A, cap, by rw [hlen1], by omega, sub, fun hn => ⟨⟨l.b, l.o + off * sz', none⟩, hA (pos hn hlen1), rfl, fun i e j x h1 h2 => ?_⟩⟩
          obtain ⟨g1, cv, g2, g3⟩ := hcell i e j x h1 h2
          exact ⟨g1, cv, g2, g3.ext (Ext.bares hS hO) (Keep.refl _ _)⟩
        · obtain ⟨es2, he2, h2⟩ := Option.map_eq_some_iff.1 he
          cases h2
          rename_i hcl
          have hcl' : cl = false := by simpa using hcl
          subst hcl'
          have hl2 : es.length = len := by rw [mapO_len he2]; exact hlen1
          refine ⟨A, cap, by rw [hl2], by omega, fun i e hi => ?_, fun hn => ⟨⟨l.b, l.o + off * sz', none⟩, hA (pos hn hl2), rfl, fun i e j x h1 h2 => ?_⟩⟩
          · obtain ⟨e0, g0, g1⟩ := mapO_get he2 i e hi
            rw [mapO_len g1]
            exact sub i e0 g0
          · obtain ⟨e0, g0, g1⟩ := mapO_get he2 i e h1
            obtain ⟨x0, k0, k1⟩ := mapO_get g1 j x h2
            obtain ⟨q1, cv, q2, q3⟩ := hcell i e0 j x0 g0 k0
            refine ⟨dr_cell k1 q1, cv, q2, dr_sound h (by simp) hS hO deep x0 x cv q3 k1 (hop.mono fun q hq => ?_)⟩
            exact List.mem_flatMap.2 ⟨e0, List.mem_of_getElem? g0, List.mem_flatMap.2 ⟨x0, List.mem_of_getElem? k0, hq⟩⟩
      · cases he
    · cases he
  · split at he
    · rename_i hsz
      cases he
      exact .inr ⟨_, rfl, hR.str_inv, hsz, rfl⟩
    · cases he
  · cases he

/-- Bytes. -/
theorem bytesOf_some : ∀ {es : List (List V)} {s : List UInt8}, bytesOf es = some s → ∃ ns : List Int, es = ns.map (fun n => [V.int .u8 n]) ∧ s = ns.map fun n => UInt8.ofNat n.toNat
  | [], s, h => by cases h; exact ⟨[], rfl, rfl⟩
  | e :: es, s, h => by
    simp only [bytesOf, mapO, Option.bind_eq_some_iff] at h
    obtain ⟨y, hy, ys, hys, he⟩ := h
    cases he
    split at hy
    · rename_i n
      cases hy
      obtain ⟨ns, rfl, rfl⟩ := bytesOf_some hys
      exact ⟨n :: ns, rfl, rfl⟩
    · cases hy

theorem p_b2s (h : Heaps w c H) {t d e : TypeId} {x : Operand} (hop : op.op = .convert t d x) (ht : P.underlying t = some (.slice e)) (he : P.underlying e = some (.int .u8)) (hd : P.underlying d = some .string) {x' : Opd} (hx : cOpd x = some x')
    (hE : EnvR w c env a) (hns : ∀ s, opd env x' ≠ .str s) {es : List (List V)} {ids : List Nat} (hm : elemsOf H 1 (opd env x') = some (es, ids)) {s : List UInt8} (hb : bytesOf es = some s) : Pure P w c a op (.str s) := by
  have hR := opd_sound hE hx
  obtain ⟨ns, rfl, rfl⟩ := bytesOf_some hb
  have e1 : execOp a.eval op = (do pure (Next.value (← convert t d (a.eval x)))) := by simp only [execOp, hop]
  -- a view in which all is at rest
  let c' : Cx := { c with Sf := fun _ => True }
  rcases elems_sound (c' := c') h (fun _ _ => trivial) (fun _ hb => hb) hR hm (fun _ _ _ _ _ _ _ _ => trivial) with ⟨⟨A, cap, hu, hc, hs, hcell⟩, _⟩ | ⟨s, hxs, hu, _, hes⟩
  · rw [hu] at e1
    simp only [List.length_map] at e1
    rcases Nat.eq_zero_or_pos ns.length with h0 | h0
    · have : ns = [] := List.eq_nil_of_length_eq_zero h0
      subst this
      refine Pure.mk e1 (v' := .string ⟨#[]⟩) ?_ (.str [])
      cases A with
      | none =>
        rw [List.length_nil, run_convert_bytes_nil w t e ht he 0 cap d hd]
        rfl
      | some b =>
        obtain ⟨bb, bo, bs⟩ := b
        have hl : (loadCells ⟨bb, bo, bs⟩ 0).run P w = .ok (([] : List Int).map (Value.int .u8)).toArray w := by
          have := run_loadCells_list (P := P) w ⟨bb, bo, bs⟩ [] (fun j v hj => by simp at hj)
          simpa using this
        rw [List.length_nil, run_convert_bytes_string w t d e _ 0 cap ht he hd, run_bytesToString w _ 0 cap [] hl]
        rfl
    · obtain ⟨b, rfl, hsp, hcell⟩ := hcell (by intro hn; simp at hn; rw [hn] at h0; simp at h0)
      obtain ⟨bb, bo, bs⟩ := b
      cases hsp
      refine Pure.mk e1 (v' := .string (strOfNums ns)) ?_ (by exact .str _)
      refine run_convert_bytes_arg w t e ht he bb bo ns.length cap ns rfl (fun i hi => ?_) d hd
      have g := List.getElem?_eq_getElem hi
      obtain ⟨_, cv, g2, g3⟩ := hcell i [.int .u8 ns[i]] 0 (.int .u8 ns[i]) (by rw [List.getElem?_map, g]; rfl) rfl
      rw [g3.int_inv] at g2
      simp only [Nat.mul_one, Nat.add_zero] at g2
      rw [g2]
      simp [List.getD, g]
  · exact absurd hxs (hns s)
end
end Go.Fm
end

section
/- FM: what is written. -/
set_option autoImplicit false
namespace Go.Fm

theorem putL_get {α : Type} (cs : List α) (n : Nat) (xs : List α) (h : n + xs.length ≤ cs.length) (j : Nat) : (putL cs n xs)[j]? = if j < n then cs[j]? else if j < n + xs.length then xs[j - n]? else cs[j]? := by
  rw [putL_eq _ _ _ (by omega)]
  by_cases h1 : j < n
  · rw [if_pos h1, List.append_assoc, List.getElem?_append_left (by simp; omega), List.getElem?_take, if_pos h1]
  · rw [if_neg h1]
    by_cases h2 : j < n + xs.length
    · rw [if_pos h2, List.getElem?_append_left (by simp; omega), List.getElem?_append_right (by simp; omega)]
      congr 1
      simp
      omega
    · rw [if_neg h2, List.getElem?_append_right (by simp; omega), List.getElem?_drop]
      congr 1
      simp
      omega

/-- What an operation has done to a frame's heap. -/
structure Did (w : World) (c : Cx) (H : HeapF) (nx : Nat) (L : Heap) (w' : World) (c' : Cx) (H' : HeapF) (nx' : Nat) (L' : Heap) (touched : List Nat) : Prop where
  step : Step w c H w' c' H'
  agree : Agree nx' L' H'
  top : ∀ i, nx' ≤ i → H' i = H i
  A : ∀ i, c'.A i ↔ c.A i ∨ (nx ≤ i ∧ i < nx')
  le : nx ≤ nx'
  kept : ∀ id th, ¬ id ∈ touched → L.get id = some th → L'.get id = some th ∨ L'.get id = some th.frozen

section
variable {P : Program} {w : World} {c : Cx} {H : HeapF} {env : Nat → V} {a : Act} {op : Oper} {v : V}

theorem Heaps.setRow (h : Heaps w c H) {id : Nat} {th th' : Thing} {l : Loc} (hi : H id = some th) (hm : c.μ id = some l) (ho : th.open_ = true) (hp : 0 < l.K) (C' : Array Value)
    (hth : Keep c w (w.setRow l.b C') → Lies (w.setRow l.b C') c l th') (ho' : th'.open_ = true) : Step w c H (w.setRow l.b C') c (updH H id (some th')) := by
  obtain ⟨f1, f2, f3⟩ := h.free id th l hi hm ho hp
  have hk : Keep c w (w.setRow l.b C') := fun b hb => setRow_other w l.b b C' (fun e => by subst e; exact hb.elim f1 f2)
  exact h.write hi hm ho hp (by simp) (fun b hb => setRow_other w l.b b C' hb) rfl rfl rfl (hth hk) ho'

theorem Froze.did {nx : Nat} {L : Heap} {ids : List Nat} {c' : Cx} {H' : HeapF} {L' : Heap} (f : Froze w c H nx L ids c' H' L') (h : ∀ id th, L.get id = some th → L'.get id = some th ∨ L'.get id = some th.frozen) : Did w c H nx L w c' H' nx L' [] where
  step := f.step
  agree := f.agree
  top := f.top
  A i := by rw [f.A]; constructor
            · exact .inl
            · rintro (h | h)
              · exact h
              · omega
  le := Nat.le_refl _
  kept id th _ hi := h id th hi

/-- Freezing takes nothing away. -/
theorem freeze1_kept (L : Heap) (id : Nat) : ∀ i th, L.get i = some th → (freeze1 L id).get i = some th ∨ (freeze1 L id).get i = some th.frozen := by
  intro i th hi
  unfold freeze1
  split
  · rename_i sz cl es hg
    by_cases e : id = i
    · subst e
      rw [hg] at hi
      cases hi
      right
      rw [Tr.get_put_same]
      rfl
    · left; rw [Tr.get_put_ne _ _ _ _ e, hi]
  · rename_i es hg
    by_cases e : id = i
    · subst e
      rw [hg] at hi
      cases hi
      right
      rw [Tr.get_put_same]
      rfl
    · left; rw [Tr.get_put_ne _ _ _ _ e, hi]
  · exact .inl hi
theorem freeze_kept : ∀ (ids : List Nat) (L : Heap) (i : Nat) (th : Thing), L.get i = some th → (freeze L ids).get i = some th ∨ (freeze L ids).get i = some th.frozen
  | [], L, i, th, hi => .inl hi
  | id :: ids, L, i, th, hi => by
    rcases freeze1_kept L id i th hi with h | h
    · exact freeze_kept ids _ i th h
    · rcases freeze_kept ids _ i _ h with h' | h'
      · exact .inr h'
      · exact .inr (by rw [Thing.frozen_frozen] at h'; exact h')

/-- What was frozen is open to be seen. -/
theorem Froze.opened {nx : Nat} {L : Heap} {ids : List Nat} {c' : Cx} {H' : HeapF} {L' : Heap} (f : Froze w c H nx L ids c' H' L') : Opened c c' L.get .fresh ids := by
  intro id th l h1 h2 h3 h4 h5
  rcases h5 with h5 | ⟨h5, h6⟩
  · cases h5
  · rcases f.rested id h5 th l h1 h2 h3 h4 with ⟨cs, hb⟩ | hs
    · exact absurd hb (h6 cs)
    · exact hs

theorem Agree.heaps {nx : Nat} {L : Heap} (ha : Agree nx L H) (h : Heaps w c H) : Heaps w c L.get := h.sub (ha.sub)

/-- What cells lie behind an array that is written into. -/
theorem put_cells {C : Array Value} {o : Nat} {vs : List Value} (h : o + vs.length ≤ C.size) (k : Nat) : (putL C.toList o vs).toArray[k]? = if k < o then C[k]? else if k < o + vs.length then vs[k - o]? else C[k]? := by
  have := putL_get C.toList o vs (by simpa using h) k
  simpa using this
theorem put_size {C : Array Value} {o : Nat} {vs : List Value} (h : o + vs.length ≤ C.size) : (putL C.toList o vs).toArray.size = C.size := by
  have := putL_length C.toList o vs (by simpa using h)
  simpa using this

theorem lies_box_put {l : Loc} {cs : List V} (hl : Lies w c l (.box cs)) {C : Array Value} {t : TypeId} (hC : w.heap[l.b]? = some (.cells C t (0, 0))) {sub : Nat} {xs : List V} {vs : List Value} (hs : sub + xs.length ≤ cs.length)
    (hR : Rs w c xs vs) (hx : xs.all isCell = true) (hk : Keep c w (w.setRow l.b (putL C.toList (l.o + sub) vs).toArray)) : Lies (w.setRow l.b (putL C.toList (l.o + sub) vs).toArray) c l (.box (putL cs sub xs)) := by
  obtain ⟨hp, C1, t1, g1, g2, g3⟩ := hl
  rw [hC] at g1
  cases g1
  have hlen : xs.length = vs.length := hR.1
  have hfit : l.o + sub + vs.length ≤ C.size := by omega
  refine ⟨hp, _, t, setRow_heap w _ _ _ _ _ hC, by rw [put_size hfit, putL_length _ _ _ hs]; exact g2, fun j x hj => ?_⟩
  rw [putL_get _ _ _ hs] at hj
  rw [put_cells hfit]
  by_cases h1 : j < sub
  · rw [if_pos h1] at hj
    obtain ⟨k1, v, k2, k3⟩ := g3 j x hj
    exact ⟨k1, v, by rw [if_pos (by omega), k2], k3.ext (Ext.refl c) hk⟩
  · rw [if_neg h1] at hj
    by_cases h2 : j < sub + xs.length
    · rw [if_pos h2] at hj
      obtain ⟨v, k2, k3⟩ := hR.get hj
      refine ⟨allCell_get hx _ _ hj, v, ?_, k3.ext (Ext.refl c) hk⟩
      rw [if_neg (by omega), if_pos (by omega), ← k2]
      congr 1
      omega
    · rw [if_neg h2] at hj
      obtain ⟨k1, v, k2, k3⟩ := g3 j x hj
      exact ⟨k1, v, by rw [if_neg (by omega), if_neg (by omega), k2], k3.ext (Ext.refl c) hk⟩

/-- A row is written from a cell of an element on. -/
theorem lies_row_put {l : Loc} {sz : Nat} {wr : Bool} {es es' : List (List V)} (hl : Lies w c l (.row sz wr true es)) (hp : 0 < l.K) {C : Array Value} {t : TypeId} (hC : w.heap[l.b]? = some (.cells C t (0, 0))) {o : Nat} {vs : List Value}
    (hlen' : es'.length ≤ l.K) (hs' : ∀ (i : Nat) (e : List V), es'[i]? = some e → e.length = sz) (hfit : o + vs.length ≤ l.K * sz)
    (hcell : ∀ (i : Nat) (e : List V) (j : Nat) (x : V), es'[i]? = some e → e[j]? = some x →
      (¬ (o ≤ i * sz + j ∧ i * sz + j < o + vs.length) ∧ ∃ e0, es[i]? = some e0 ∧ e0[j]? = some x) ∨ (o ≤ i * sz + j ∧ i * sz + j < o + vs.length ∧ isCell x = true ∧ ∃ v, vs[i * sz + j - o]? = some v ∧ R w c.bare x v))
    (hk : Keep c w (w.setRow l.b (putL C.toList (l.o + o) vs).toArray)) : Lies (w.setRow l.b (putL C.toList (l.o + o) vs).toArray) c l (.row sz wr true es') := by
  obtain ⟨h1, h2, h3, h4⟩ := hl
  obtain ⟨C1, t1, g1, g2, g3⟩ := h4 hp
  rw [hC] at g1
  cases g1
  have hfit' : l.o + o + vs.length ≤ C.size := by omega
  refine ⟨h1, hlen', hs', fun _ => ⟨_, t, setRow_heap w _ _ _ _ _ hC, by rw [put_size hfit']; exact g2, fun i e j x hi hj => ?_⟩⟩
  rw [put_cells hfit']
  rcases hcell i e j x hi hj with ⟨hn, e0, k1, k2⟩ | ⟨n1, n2, n3, v, k1, k2⟩
  · obtain ⟨q1, v, q2, q3⟩ := g3 i e0 j x k1 k2
    refine ⟨q1, v, ?_, q3.ext (Ext.refl _) hk⟩
    rw [← q2]
    by_cases hlt : l.o + i * sz + j < l.o + o
    · rw [if_pos hlt]
    · rw [if_neg hlt, if_neg (by omega)]
  · refine ⟨n3, v, ?_, k2.ext (Ext.refl _) hk⟩
    rw [if_neg (by omega), if_pos (by omega), ← k1]
    congr 1
    omega

/-- Cells are stored. -/
theorem stored {b o : Nat} {C : Array Value} {t : TypeId} (hC : w.heap[b]? = some (.cells C t (0, 0))) {vs : List Value} (hfit : o + vs.length ≤ C.size) (h1 : ∀ v ∈ vs, v.oneCell' = true) :
    (storeCells ⟨b, o, none⟩ vs).run P w = .ok () (w.setRow b (putL C.toList o vs).toArray) := by
  have := run_storeCells_at P b o t vs 0 C w hC (by simpa using hfit) h1
  rw [putL_eq _ _ _ (by simp; omega)]
  simpa using this
end
end Go.Fm
end

section
/- FM: stores. -/
set_option autoImplicit false
namespace Go.Fm

section
variable {P : Program} {w : World} {c : Cx} {H : HeapF} {env : Nat → V} {a : Act} {op : Oper} {v : V}

/-- What an operation that writes comes to. -/
def Done (P : Program) (w : World) (c : Cx) (H : HeapF) (nx : Nat) (L : Heap) (a : Act) (op : Oper) (r : Out) : Prop :=
  ∃ n v' w' c' H', (execOp a.eval op).run P w = .ok n w' ∧ (n = .value v' ∨ n = .skip ∧ v' = .tuple #[]) ∧ Did w c H nx L w' c' H' r.2.2.1 r.2.1 r.2.2.2 ∧ R w' c' r.1 v'

theorem freeze1_other (L : Heap) {id i : Nat} (h : i ≠ id) : (freeze1 L id).get i = L.get i := by
  unfold freeze1
  split
  · rw [Tr.get_put_ne _ _ _ _ (fun e => h e.symm)]
  · rw [Tr.get_put_ne _ _ _ _ (fun e => h e.symm)]
  · rfl
theorem freeze_other : ∀ (ids : List Nat) (L : Heap) {i : Nat}, ids.contains i = false → (freeze L ids).get i = L.get i
  | [], L, i, _ => rfl
  | id :: ids, L, i, h => by
    simp only [List.contains_cons, Bool.or_eq_false_iff, beq_eq_false_iff_ne, ne_eq] at h
    rw [freeze, List.foldl_cons, ← freeze, freeze_other ids _ h.2, freeze1_other L h.1]

theorem Froze.write {nx : Nat} {L : Heap} {ids : List Nat} {c' : Cx} {H' : HeapF} (f : Froze w c H nx L ids c' H' (freeze L ids)) {w' : World} {id : Nat} {th' : Thing} (hid : id < nx) (k : Step w c' H' w' c' (updH H' id (some th'))) :
    Did w c H nx L w' c' (updH H' id (some th')) nx ((freeze L ids).put id (some th')) [id] where
  step := f.step.trans k
  agree := f.agree.put hid _
  top i hi := by rw [updH_ne _ _ (by omega)]; exact f.top i hi
  A i := by
    rw [f.A]
    constructor
    · exact .inl
    · rintro (h | h)
      · exact h
      · omega
  le := Nat.le_refl _
  kept i th hn hi := by
    simp at hn
    rw [Tr.get_put_ne _ _ _ _ (fun e => hn e.symm)]
    exact freeze_kept ids L i th hi

theorem mapO_cells {H : HeapF} {fl : Fl} {d : Nat} {xs ys : List V} (h : mapO (dr H fl d) xs = some ys) (hc : xs.all isCell = true) : ys.all isCell = true := by
  rw [List.all_eq_true]
  intro y hy
  obtain ⟨j, hj⟩ := List.mem_iff_getElem?.1 hy
  obtain ⟨x, h1, h2⟩ := mapO_get h j y hj
  exact dr_cell h2 (allCell_get hc j x h1)

theorem store_sound {nx : Nat} {L : Heap} (h : Heaps w c H) (ha : Agree nx L H) {t : TypeId} {p x : Operand} (hop : op.op = .store t p x) {i : TypeInfo} (hi : P.info? t = some i) {p' x' : Opd} (hp : cOpd p = some p') (hx : cOpd x = some x') (hE : EnvR w c env a)
    {r : Out} (hr : store L nx i.size (opd env p') (opd env x') = some r) : Done P w c H nx L a op r := by
  have hpR := opd_sound hE hp
  have hxR := opd_sound hE hx
  unfold store at hr
  split at hr
  · rename_i hc
    obtain ⟨hlen, hcell⟩ := hc
    obtain ⟨hxs, hone⟩ := hxR.cells_inv hcell
    have hvs : (a.eval x).cells.size = i.size := by have := hxs.1; simp at this; omega
    have hrun : ∀ (b : Addr) (w' : World), a.eval p = .pointer (some b) → (storeCells b (a.eval x).cells.toList).run P w = .ok () w' → (execOp a.eval op).run P w = .ok .skip w' := by
      intro b w' hb hs
      simp [execOp, hop, Instr.storeAt, Instr.sureAddr, hb, storeVar, sizeOf, typeInfo, hi, hvs, hs]
    split at hr
    · rename_i id idx sub hpv
      rw [hpv] at hpR
      cases hpR with
      | pt hpt =>
        obtain ⟨hA, b, hb, hl⟩ := hpt
        split at hr
        · rename_i cs hth
          split at hr
          · rename_i hcond
            obtain ⟨rfl, hsub⟩ := hcond
            cases hr
            obtain ⟨hlt, hH⟩ := ha.lt hth
            obtain ⟨l, hm, hLies⟩ := h.at_ id _ hH
            have hLies' := hLies
            obtain ⟨hK, C, ty, hC, hsz, _⟩ := hLies
            have hbl := hl l hm
            simp only [Nat.zero_mul, Nat.add_zero] at hbl
            have hst := stored (P := P) hC (o := l.o + sub) (vs := (a.eval x).cells.toList) (by simp; omega) hone
            have hstep := h.setRow hH hm rfl hK (putL C.toList (l.o + sub) (a.eval x).cells.toList).toArray (th' := .box (putL cs sub (opd env x').cells)) (fun hk => lies_box_put hLies' hC (by omega) hxs hcell hk) rfl
            exact ⟨_, _, _, c, _, hrun b _ hb (by rw [hbl]; exact hst), .inr ⟨rfl, rfl⟩, (Froze.nil h ha).write hlt hstep, .undef⟩
          · cases hr
        · rename_i sz es hth
          split at hr
          · rename_i e he
            split at hr
            · rename_i hcond
              obtain ⟨hsub, hnot⟩ := hcond
              obtain ⟨xs, hxs', rfl⟩ := Option.map_eq_some_iff.1 hr
              obtain ⟨hlt, hH⟩ := ha.lt hth
              obtain ⟨c1, H1, f⟩ := freeze_sound ((opd env x').cells.flatMap (refs L.get deep)) h ha
              have hth1 : (freeze L ((opd env x').cells.flatMap (refs L.get deep))).get id = some (.row sz true true es) := by rw [freeze_other _ _ hnot, hth]
              obtain ⟨_, hH1⟩ := f.agree.lt hth1
              have h1 := f.step.heaps
              obtain ⟨l, hm, hLies⟩ := h1.at_ id _ hH1
              have hLies' := hLies
              obtain ⟨hsz, hlen', hall, hrow⟩ := hLies
              have hidx : idx < es.length := (List.getElem?_eq_some_iff.1 he).1
              have hK : 0 < l.K := by omega
              obtain ⟨C, ty, hC, hfit, _⟩ := hrow hK
              have hm0 : c.μ id = some l := by rw [← f.μ]; exact hm
              have hbl := hl l hm0
              rw [hsz] at hbl
              have hesz := hall idx e he
              -- what is laid open, in the frozen view
              have hR1 : Rs w c1.bare xs (a.eval x).cells.toList := by
                refine ⟨by rw [mapO_len hxs']; exact hxs.1, fun j y u hy hu => ?_⟩
                obtain ⟨x0, g0, g1⟩ := mapO_get hxs' j y hy
                refine dr_sound (ha.heaps h) (by simp) f.step.ext.Sf f.step.ext.So deep x0 y u (hxs.2 j x0 u g0 hu) g1 (f.opened.mono fun q hq => ?_)
                exact List.mem_flatMap.2 ⟨x0, List.mem_of_getElem? g0, hq⟩
              have hxlen : xs.length = i.size := by rw [mapO_len hxs']; exact hlen
              have hmul : idx * sz + sz ≤ l.K * sz := by
                have := Nat.mul_le_mul_right sz (show idx + 1 ≤ l.K by omega)
                rw [Nat.add_mul] at this
                omega
              have hst := stored (P := P) hC (o := l.o + (idx * sz + sub)) (vs := (a.eval x).cells.toList) (by simp; omega) hone
              have hstep := h1.setRow hH1 hm rfl hK (putL C.toList (l.o + (idx * sz + sub)) (a.eval x).cells.toList).toArray (th' := .row sz true true (es.set idx (putL e sub xs))) (fun hk => by
                refine lies_row_put hLies' hK hC (by simpa using hlen') (set_sz hall (by rw [putL_length _ _ _ (by omega)]; exact hesz)) (by simp; omega) (fun i' e' j y h2 h3 => ?_) hk
                have hjsz : j < sz := by
                  have := set_sz hall (k := idx) (xs := putL e sub xs) (by rw [putL_length _ _ _ (by omega)]; exact hesz) i' e' h2
                  have := (List.getElem?_eq_some_iff.1 h3).1
                  omega
                have hvl : (a.eval x).cells.toList.length = xs.length := by simp; omega
                rw [List.getElem?_set] at h2
                split at h2
                · rename_i hii
                  subst hii
                  · cases h2
                    rw [putL_get _ _ _ (by omega)] at h3
                    by_cases q1 : j < sub
                    · rw [if_pos q1] at h3
                      exact .inl ⟨by omega, e, he, h3⟩
                    · rw [if_neg q1] at h3
                      by_cases q2 : j < sub + xs.length
                      · rw [if_pos q2] at h3
                        obtain ⟨u, hu, hRu⟩ := hR1.get h3
                        refine .inr ⟨by omega, by omega, allCell_get (mapO_cells hxs' hcell) _ _ h3, u, ?_, hRu⟩
                        rw [← hu]
                        congr 1
                        omega
                      · rw [if_neg q2] at h3
                        exact .inl ⟨by omega, e, he, h3⟩
                · rename_i hii
                  have hne : i' < idx ∨ idx < i' := by omega
                  refine .inl ⟨?_, e', h2, h3⟩
                  rcases hne with hlt' | hlt'
                  · have := Nat.mul_le_mul_right sz (show i' + 1 ≤ idx from hlt')
                    rw [Nat.add_mul] at this
                    omega
                  · have := Nat.mul_le_mul_right sz (show idx + 1 ≤ i' from hlt')
                    rw [Nat.add_mul] at this
                    omega) rfl
              refine ⟨_, _, _, c1, _, hrun b _ hb (by rw [hbl, show l.o + idx * sz + sub = l.o + (idx * sz + sub) by omega]; exact hst), .inr ⟨rfl, rfl⟩, f.write hlt hstep, .undef⟩
            · cases hr
          · cases hr
        · cases hr
    · cases hr
  · cases hr
end
end Go.Fm
end

section
/- FM: what is read of a slice, a text that is appended, copied. -/
set_option autoImplicit false
namespace Go.Fm

theorem flat_at {α : Type} {sz : Nat} : ∀ (es : List (List α)), (∀ (i : Nat) (e : List α), es[i]? = some e → e.length = sz) → ∀ (k : Nat) (x : α), es.flatten[k]? = some x → ∃ i e j, es[i]? = some e ∧ e[j]? = some x ∧ k = i * sz + j ∧ j < sz
  | [], _, k, x, h => by simp at h
  | e :: es, hs, k, x, h => by
    have h0 := hs 0 e rfl
    simp only [List.flatten_cons] at h
    rcases Nat.lt_or_ge k e.length with hk | hk
    · rw [List.getElem?_append_left hk] at h
      exact ⟨0, e, k, rfl, h, by omega, by omega⟩
    · rw [List.getElem?_append_right hk] at h
      obtain ⟨i, e', j, h1, h2, h3, h4⟩ := flat_at es (fun i e h => hs (i + 1) e (by simpa using h)) _ x h
      exact ⟨i + 1, e', j, by simpa using h1, h2, by rw [Nat.add_mul]; omega, h4⟩

section
variable {P : Program} {w : World} {c : Cx} {H : HeapF} {env : Nat → V} {a : Act} {op : Oper} {v : V}

structure Src (P : Program) (w : World) (c : Cx) (sz : Nat) (es : List (List V)) (u : Value) (news : List Value) : Prop where
  szs : ∀ (i : Nat) (e : List V), es[i]? = some e → e.length = sz
  len : news.length = es.length * sz
  rs : Rs w c.bare es.flatten news
  one : ∀ v ∈ news, v.oneCell' = true
  cell : es.flatten.all isCell = true
  lenOf : Builtin.lenOf u = pure es.length
  read : ∀ n, n ≤ es.length → ∀ w0 : World, w0.heap = w.heap → (Builtin.firstCells sz n u).run P w0 = .ok (news.take (n * sz)).toArray w0

theorem cell_heap {w w0 : World} (h : w0.heap = w.heap) (b : Addr) : w0.cell? b = w.cell? b := by
  unfold World.cell?
  rw [h]

theorem ElemsAt.src {sz : Nat} {es : List (List V)} {u : Value} (h : ElemsAt w c sz es u) : ∃ news, Src P w c sz es u news := by
  obtain ⟨A, cap, rfl, hcap, hs, hcell⟩ := h
  have hfl := flat_len es hs
  by_cases hes : es = []
  · subst hes
    refine ⟨[], hs, by simp, Rs.nil _ _, fun v hv => by simp at hv, rfl, rfl, fun n hn w0 _ => ?_⟩
    simp at hn
    subst hn
    cases A with
    | none => simp [Builtin.firstCells]
    | some b =>
      have := run_firstCells_some (P := P) w0 sz 0 b 0 cap [] (by simp) (fun j u h => by simp at h)
      simpa using this
  · obtain ⟨b, rfl, hsp, hcell⟩ := hcell hes
    let news := (List.range (es.length * sz)).map fun k => (w.cell? ⟨b.block, b.off + k, none⟩).getD Go.undef
    have hlen : news.length = es.length * sz := by simp [news]
    have place : ∀ (k : Nat) (x : V), es.flatten[k]? = some x → isCell x = true ∧ ∃ cv, w.cell? ⟨b.block, b.off + k, none⟩ = some cv ∧ news[k]? = some cv ∧ R w c.bare x cv := by
      intro k x hk
      obtain ⟨i, e, j, h1, h2, h3, h4⟩ := flat_at es hs k x hk
      obtain ⟨g1, cv, g2, g3⟩ := hcell i e j x h1 h2
      have hlt : k < es.length * sz := by rw [← hfl]; exact (List.getElem?_eq_some_iff.1 hk).1
      rw [Nat.add_assoc, ← h3] at g2
      refine ⟨g1, cv, g2, ?_, g3⟩
      simp only [news, List.getElem?_map, List.getElem?_range hlt, Option.map_some, g2, Option.getD_some]
    have placeV : ∀ (k : Nat) (v : Value), news[k]? = some v → ∃ x, es.flatten[k]? = some x ∧ isCell x = true ∧ w.cell? ⟨b.block, b.off + k, none⟩ = some v ∧ R w c.bare x v := by
      intro k v hk
      have hlt : k < es.flatten.length := by rw [hfl, ← hlen]; exact (List.getElem?_eq_some_iff.1 hk).1
      obtain ⟨g1, cv, g2, g3, g4⟩ := place k _ (List.getElem?_eq_getElem hlt)
      rw [hk] at g3
      cases g3
      exact ⟨_, List.getElem?_eq_getElem hlt, g1, g2, g4⟩
    refine ⟨news, hs, hlen, ⟨by rw [hfl, hlen], fun k x v hx hv => ?_⟩, fun v hv => ?_, ?_, rfl, fun n hn w0 hw => ?_⟩
    · obtain ⟨_, cv, _, g3, g4⟩ := place k x hx
      rw [hv] at g3
      cases g3
      exact g4
    · obtain ⟨k, hk⟩ := List.mem_iff_getElem?.1 hv
      obtain ⟨x, _, g1, _, g4⟩ := placeV k v hk
      exact g4.one g1
    · rw [List.all_eq_true]
      intro x hx
      obtain ⟨k, hk⟩ := List.mem_iff_getElem?.1 hx
      exact (place k x hk).1
    · refine run_firstCells_some (P := P) w0 sz n b es.length cap (news.take (n * sz)) ?_ (fun j u hj => ?_)
      · rw [List.length_take, hlen]
        exact Nat.min_eq_left (Nat.mul_le_mul_right _ hn)
      · rw [List.getElem?_take] at hj
        split at hj
        · obtain ⟨_, _, _, g2, _⟩ := placeV j u hj
          rw [cell_heap hw, add_spot hsp]
          exact g2
        · cases hj

theorem str_src (s : List UInt8) : Src P w c 1 (s.map (fun b => [V.int .u8 (b.toNat : Int)])) (.string ⟨s.toArray⟩) (s.map fun b => .int .u8 (b.toNat : Int)) where
  szs i e h := by
    rw [List.getElem?_map] at h
    obtain ⟨b, _, rfl⟩ := Option.map_eq_some_iff.1 h
    rfl
  len := by simp
  rs := by
    induction s with
    | nil => exact Rs.nil _ _
    | cons b s ih => exact Rs.cons (.int _ _) ih
  one v hv := by
    obtain ⟨b, _, rfl⟩ := List.mem_map.1 hv
    rfl
  cell := by
    induction s with
    | nil => rfl
    | cons b s ih => simpa [isCell] using ih
  lenOf := by simp [Builtin.lenOf, ByteArray.size]
  read n hn w0 _ := by
    have e1 : (⟨s.toArray⟩ : ByteArray).extract 0 n = ⟨(s.take n).toArray⟩ := by
      have := extract_str s 0 n
      simpa using this
    simp [Builtin.firstCells, e1, List.map_take]

/-- The elements of what is appended, copied. -/
theorem elems_src {c' : Cx} (h : Heaps w c H) (hS : ∀ b, c.Sf b → c'.Sf b) (hO : ∀ b, c.So b → c'.So b) {sz : Nat} {x : V} {u : Value} (hR : R w c x u) {es : List (List V)} {ids : List Nat} (he : elemsOf H sz x = some (es, ids)) (hop : Opened c c' H .fresh ids) :
    ∃ news, Src P w c' sz es u news := by
  rcases elems_sound h hS hO hR he hop with ⟨h1, _⟩ | ⟨s, rfl, rfl, rfl, rfl⟩
  · exact h1.src
  · exact ⟨_, str_src s⟩
end
end Go.Fm
end

section
/- FM: copies; rows that are moved on. -/
set_option autoImplicit false
namespace Go.Fm

section
variable {P : Program} {w : World} {c : Cx} {H : HeapF} {env : Nat → V} {a : Act} {op : Oper} {v : V}

theorem updH_id {H : HeapF} {id : Nat} {th : Option Thing} (h : H id = th) : updH H id th = H := by
  funext i
  by_cases e : i = id
  · subst e; rw [updH_same, h]
  · rw [updH_ne _ _ e]

/-- Rows are written into a row. -/
theorem lies_rows_put {l : Loc} {sz : Nat} {wr : Bool} {es qs : List (List V)} (hl : Lies w c l (.row sz wr true es)) (hp : 0 < l.K) {C : Array Value} {t : TypeId} (hC : w.heap[l.b]? = some (.cells C t (0, 0))) {n : Nat} {vs : List Value}
    (hn : n + qs.length ≤ es.length) (hs : ∀ (i : Nat) (e : List V), qs[i]? = some e → e.length = sz) (hR : Rs w c.bare qs.flatten vs) (hx : qs.flatten.all isCell = true)
    (hk : Keep c w (w.setRow l.b (putL C.toList (l.o + n * sz) vs).toArray)) : Lies (w.setRow l.b (putL C.toList (l.o + n * sz) vs).toArray) c l (.row sz wr true (putL es n qs)) := by
  have hl' := hl
  obtain ⟨h1, h2, h3, h4⟩ := hl'
  have hvl : vs.length = qs.length * sz := by rw [← hR.1, flat_len qs hs]
  have hget := putL_get es n qs hn
  have hK : (n + qs.length) * sz ≤ l.K * sz := Nat.mul_le_mul_right _ (by omega)
  rw [Nat.add_mul] at hK
  refine lies_row_put hl hp hC (by rw [putL_length _ _ _ hn]; exact h2) (fun i e hi => ?_) (by omega) (fun i e j x hi hj => ?_) hk
  · rw [hget] at hi
    split at hi
    · exact h3 i e hi
    · split at hi
      · exact hs _ e hi
      · exact h3 i e hi
  · have hjs : j < sz := by
      have : e.length = sz := by
        rw [hget] at hi
        split at hi
        · exact h3 i e hi
        · split at hi
          · exact hs _ e hi
          · exact h3 i e hi
      rw [← this]
      exact (List.getElem?_eq_some_iff.1 hj).1
    rw [hget] at hi
    split at hi
    · rename_i hlt
      have := Nat.mul_le_mul_right sz (show i + 1 ≤ n from hlt)
      rw [Nat.add_mul] at this
      exact .inl ⟨by omega, e, hi, hj⟩
    · rename_i hge
      split at hi
      · rename_i hlt
        have m1 := Nat.mul_le_mul_right sz (show i + 1 ≤ n + qs.length from hlt)
        rw [Nat.add_mul, Nat.add_mul] at m1
        have m2 := Nat.mul_le_mul_right sz (show n ≤ i by omega)
        have hf := flat_get qs hs (i - n) j e x hi hj
        obtain ⟨u, hu, hRu⟩ := hR.get hf
        refine .inr ⟨by omega, by omega, allCell_get hx _ _ hf, u, ?_, hRu⟩
        rw [← hu]
        congr 1
        rw [Nat.sub_mul]
        omega
      · rename_i hge2
        have m1 := Nat.mul_le_mul_right sz (show n + qs.length ≤ i by omega)
        rw [Nat.add_mul] at m1
        exact .inl ⟨by omega, e, hi, hj⟩

theorem Src.take {sz : Nat} {es : List (List V)} {u : Value} {news : List Value} (h : Src P w c sz es u news) (n : Nat) : Rs w c.bare (es.take n).flatten (news.take (n * sz)) ∧ (es.take n).flatten.all isCell = true ∧ ∀ (i : Nat) (e : List V), (es.take n)[i]? = some e → e.length = sz := by
  have hs' : ∀ (i : Nat) (e : List V), (es.take n)[i]? = some e → e.length = sz := by
    intro i e hi
    rw [List.getElem?_take] at hi
    split at hi
    · exact h.szs i e hi
    · cases hi
  have e1 : es.flatten.take (n * sz) = (es.take n).flatten := by
    have e0 : es.flatten = (es.take n).flatten ++ (es.drop n).flatten := by rw [← List.flatten_append, List.take_append_drop]
    have hl := flat_len (es.take n) hs'
    rcases Nat.lt_or_ge es.length n with hlt | hge
    · rw [List.take_of_length_le (l := es) (by omega), List.take_of_length_le]
      rw [flat_len es h.szs]
      exact Nat.mul_le_mul_right _ (by omega)
    · rw [List.length_take, Nat.min_eq_left hge] at hl
      rw [e0, List.take_append_of_le_length (by omega), List.take_of_length_le (by omega)]
  refine ⟨?_, ?_, hs'⟩
  · rw [← e1]
    exact h.rs.take _
  · rw [← e1, List.all_eq_true]
    intro x hx
    exact List.all_eq_true.1 h.cell x (List.mem_of_mem_take hx)

theorem R.sl_inv {id sz off len : Nat} {u : Value} (h : R w c (.sl id sz off len) u) : SlAt c id sz off len u := by cases h; assumption

/-- Cells are stored at an address, if there is one. -/
def StoredAt (P : Program) (w : World) (A : Option Addr) (vs : List Value) (w' : World) : Prop :=
  (∀ b, A = some b → (storeCells b vs).run P w = .ok () w') ∧ (A = none → w' = w)
theorem StoredAt.nil {A : Option Addr} : StoredAt P w A [] w := ⟨fun b _ => by simp [storeCells], fun _ => rfl⟩
theorem StoredAt.some {b : Addr} {vs : List Value} {w' : World} (h : (storeCells b vs).run P w = .ok () w') : StoredAt P w (some b) vs w' := ⟨fun b' e => by cases e; exact h, fun e => by cases e⟩

theorem copy_sound {nx : Nat} {L : Heap} (h : Heaps w c H) (ha : Agree nx L H) {ts : Array TypeId} {xs : Array Operand} (hop : op.op = .call { callee := .builtin .copy, args := xs, argTypes := ts }) {t e : TypeId} (h0 : ts[0]? = some t) (ht : P.underlying t = some (.slice e))
    {i : TypeInfo} (hi : P.info? e = some i) {d s : Operand} (hxs : xs.toList = [d, s]) {d' s' : Opd} (hd : cOpd d = some d') (hs : cOpd s = some s') (hE : EnvR w c env a)
    {r : Out} (hr : copyTo L nx i.size (opd env d') (opd env s') = some r) : Done P w c H nx L a op r := by
  have hdR := opd_sound hE hd
  have hsR := opd_sound hE hs
  have hxs' : xs = #[d, s] := by apply Array.ext'; simpa using hxs
  subst hxs'
  have he : execOp a.eval op = (do pure (Next.value (← Builtin.copy_ ts op.type #[a.eval d, a.eval s]))) := by rw [call_builtin hop]; simp [builtin]
  unfold copyTo at hr
  obtain ⟨q, hq, hr⟩ := Option.bind_eq_some_iff.1 hr
  split at hr
  · rename_i id szz off len hdv
    split at hr
    · rename_i sz' es hth
      split at hr
      · rename_i hcond
        obtain ⟨rfl, hol, hnot⟩ := hcond
        cases hr
        obtain ⟨qs, ids⟩ := q
        obtain ⟨c1, H1, f⟩ := freeze_sound ids h ha
        obtain ⟨news, src⟩ := elems_src (P := P) (ha.heaps h) f.step.ext.Sf f.step.ext.So hsR hq f.opened
        have hth1 : (freeze L ids).get id = some (.row i.size true true es) := by rw [freeze_other _ _ hnot, hth]
        obtain ⟨_, hH1⟩ := f.agree.lt hth1
        have hlt : id < nx := (ha.lt hth).1
        have h1 := f.step.heaps
        obtain ⟨l, hm, hLies⟩ := h1.at_ id _ hH1
        rw [hdv] at hdR
        obtain ⟨hA, A, cap, hdu, hcap, hne, hl⟩ := hdR.sl_inv
        have hm0 : c.μ id = some l := by rw [← f.μ]; exact hm
        obtain ⟨l1, l2, l3⟩ := hl l hm0
        have hLies' := hLies
        obtain ⟨hsz, hlen', hall, hrow⟩ := hLies
        have hn : Nat.min qs.length len ≤ len := Nat.min_le_right _ _
        have hn' : Nat.min qs.length len ≤ qs.length := Nat.min_le_left _ _
        generalize hN : Nat.min qs.length len = n at hn hn'
        have hN' : Min.min qs.length len = n := hN
        have hread := src.read n hn' w rfl
        have hres : R w c1 (.int .i64 (n : Int)) (.int .i64 (n : Int)) := .int _ _
        have run : ∀ w' : World, StoredAt P w A (news.take (n * i.size)) w' → (execOp a.eval op).run P w = .ok (.value (.int .i64 (n : Int))) w' := by
          intro w' hw
          rw [he, hdu]
          cases A with
          | none =>
            rw [hw.2 rfl]
            simp [Builtin.copy_, h0, run_underlying ht, src.lenOf, sizeOf, typeInfo, hi, hN', hread, goInt]
          | some b =>
            simp [Builtin.copy_, h0, run_underlying ht, src.lenOf, sizeOf, typeInfo, hi, hN', hread, hw.1 b rfl, goInt]
        simp only [hN']
        rw [show es.take off ++ qs.take n ++ es.drop (off + n) = putL es off (qs.take n) by rw [putL_eq _ _ _ (by omega), List.length_take, Nat.min_eq_left hn']]
        rcases Nat.eq_zero_or_pos n with hz | hz
        · subst hz
          have hsame : putL es off (qs.take 0) = es := by rw [putL_eq _ _ _ (by omega)]; simp
          rw [hsame]
          have hstep : Step w c1 H1 w c1 (updH H1 id (some (.row i.size true true es))) := by rw [updH_id hH1]; exact Step.refl h1
          exact ⟨_, _, w, c1, _, run w (by simpa using StoredAt.nil), .inl rfl, f.write hlt hstep, hres⟩
        · have hK : 0 < l.K := by omega
          have hcap0 : 0 < cap := by omega
          obtain ⟨C, ty, hC, hfit, _⟩ := hrow hK
          have hA' := l3 hcap0
          rw [hsz] at hA'
          obtain ⟨t1, t2, t3⟩ := src.take n
          have tl : (qs.take n).length = n := by rw [List.length_take, Nat.min_eq_left hn']
          have vl : (news.take (n * i.size)).length = n * i.size := by rw [← t1.1, flat_len _ t3, tl]
          have hfit2 : l.o + off * i.size + (news.take (n * i.size)).length ≤ C.size := by
            rw [vl]
            have := Nat.mul_le_mul_right i.size (show off + n ≤ l.K by omega)
            rw [Nat.add_mul] at this
            omega
          have hst := stored (P := P) hC hfit2 (fun u hu => src.one u (List.mem_of_mem_take hu))
          have hstep := h1.setRow hH1 hm rfl hK (putL C.toList (l.o + off * i.size) (news.take (n * i.size))).toArray (th' := .row i.size true true (putL es off (qs.take n))) (fun hk => lies_rows_put hLies' hK hC (by rw [tl]; omega) t3 t1 t2 hk) rfl
          exact ⟨_, _, _, c1, _, run _ (by rw [hA']; exact .some hst), .inl rfl, f.write hlt hstep, .int _ _⟩
      · cases hr
    · cases hr
  · cases hr
end
end Go.Fm
end
