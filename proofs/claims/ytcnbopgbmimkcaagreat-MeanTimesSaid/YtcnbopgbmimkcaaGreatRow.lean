/- Functions of the program, one by one, in the machine FM; plain laws of what they answer. -/
import Derived.Test.YtcnbopgbmimkcaaGreatWalkB
import Derived.Below
import Derived.ChangeSame
import Derived.ProofKit
import Derived.OpenShut
set_option linter.all false
set_option linter.unusedSimpArgs false
set_option linter.unusedVariables false
set_option linter.unnecessarySimpa false
set_option linter.unusedSectionVars false
section
set_option autoImplicit false
set_option maxRecDepth 100000
set_option linter.unusedSimpArgs false
set_option linter.unusedVariables false
namespace Go.Proofs.YtcnbopgbmimkcaaGreat
open Go Go.Fm Go.Proofs
section
variable {Hh : Type} {enc : TypeId × Value → Hh} {P : Program} {w : World} {base : Nat} {sp : Nat → Bool} {held : Bool}
theorem cell_old {a : Addr} {v : Value} (h : w.cell? a = some v) : a.block < w.heap.size ∧ a.spot = Option.none ∧ w.cell? ⟨a.block, a.off, Option.none⟩ = some v := by
  unfold World.cell? at h ⊢
  split at h
  · rename_i c t fr hc
    have hb : a.block < w.heap.size := by
      rw [Array.getElem?_eq_some_iff] at hc
      exact hc.1
    cases hs : a.spot with
    | none =>
      rw [hs] at h
      refine ⟨hb, rfl, ?_⟩
      rw [hc]
      simpa using h
    | some s => rw [hs] at h; simp at h
  · cases h
theorem cell_add {a : Addr} {i : Nat} {v : Value} (h : w.cell? (a.add i) = some v) : w.cell? ⟨a.block, a.off + i, Option.none⟩ = some v := by
  by_cases hi : i = 0
  · subst hi
    simp only [Addr.add, if_true] at h
    simpa using (cell_old h).2.2
  · simp only [Addr.add, if_neg hi] at h
    exact h
/-- Numbers, as they were read. -/
theorem tree_ints {t e : TypeId} {fuel : Nat} {c : Value} {x : DataW Hh × List MemPlace} (ht : P.underlying t = some (.slice e)) (he : P.underlying e = some (.int .i64)) (hc : P.cellsOf e = 1)
    (h : DataW.trod enc P w base sp held fuel t [c] = some x) (C : Cx) (hC : ∀ b, b < w.heap.size → C.Sf b) : ∃ (v : V) (ns : List Int), Slc v ns ∧ R w C v c := by
  rcases DataW.trod_slice ht h with ⟨h0, _⟩ | ⟨a, len, cap, elems, rest, n, _, h0, _, _, hl, _, hlen, hel, _⟩
  · simp only [List.cons.injEq, and_true] at h0
    subst h0
    exact ⟨.nilsl, [], Slc.nil, .nilsl⟩
  · simp only [List.cons.injEq, and_true] at h0
    subst h0
    have each : ∀ i, i < len → ∃ k : Int, w.cell? (a.add i) = some (.int .i64 k) := by
      intro i hi
      have h1 := hel i hi
      rw [hc, Nat.mul_one, List.getElem?_eq_getElem (by omega)] at h1
      obtain ⟨cs, h2, h3⟩ := Option.bind_eq_some_iff.1 h1
      obtain ⟨k, rfl, _, _⟩ := DataW.trod_int he h3
      have := (World.cells?_some h2).2.2 0 (by omega)
      exact ⟨k, by simpa [Addr.add] using this⟩
    have pick : ∃ f : Nat → Int, ∀ i, i < len → w.cell? (a.add i) = some (.int .i64 (f i)) :=
      ⟨fun i => if hi : i < len then (each i hi).choose else 0, fun i hi => by simp only [hi, dif_pos]; exact (each i hi).choose_spec⟩
    obtain ⟨f, hf⟩ := pick
    refine ⟨ints ((List.range len).map f), (List.range len).map f, Slc.ints _, ?_⟩
    have hlen' : (((List.range len).map f).map iv).length = len := by simp
    have key : ∀ (i : Nat) (el : List V), (((List.range len).map f).map iv)[i]? = some el → i < len ∧ el = [.int .i64 (f i)] := by
      intro i el hi
      have hl : i < len := by
        have := (List.getElem?_eq_some_iff.1 hi).1
        simpa using this
      rw [List.getElem?_map, List.getElem?_map, List.getElem?_range hl] at hi
      simp only [Option.map_some, Option.some.injEq, iv] at hi
      exact ⟨hl, hi.symm⟩
    have := R.arr (w := w) (c := C) (f := .fresh) (sz := 1) (es := ((List.range len).map f).map iv) (A := some a) (cap := cap) a (fun i _ => .int .i64 (f i)) (by simp) (by rw [hlen']; exact hl)
      (fun i el hi => by rw [(key i el hi).2]; rfl)
      (fun hne => by
        have hpos : 0 < len := by
          rcases Nat.eq_zero_or_pos len with h0 | h0
          · subst h0; simp at hne
          · exact h0
        obtain ⟨h1, h2, _⟩ := cell_old (hf 0 hpos)
        exact ⟨rfl, h2, hC _ h1⟩)
      (fun i el j x hi hx => by
        obtain ⟨hi', rfl⟩ := key i el hi
        cases j with
        | zero =>
          simp at hx
          subst hx
          refine ⟨rfl, ?_⟩
          simpa using cell_add (hf i hi')
        | succ j => simp at hx)
      (fun i el j x hi hx => by
        obtain ⟨hi', rfl⟩ := key i el hi
        cases j with
        | zero =>
          simp at hx
          subst hx
          exact .int _ _
        | succ j => simp at hx)
    rw [hlen'] at this
    exact this
/-- A raw pattern's type, as the dump lays it. -/
structure RawT (P : Program) (tr tl ti : TypeId) : Prop where
  sl : P.underlying tl = some (.slice tr)
  size : P.cellsOf tr = 3
  int : P.underlying ti = some (.int .i64)
  one : P.cellsOf ti = 1
  onel : P.cellsOf tl = 1
  st : ∃ fs : Array Field, P.underlying tr = some (.struct fs) ∧ (∃ f, fs[0]? = some f ∧ f.type = ti ∧ f.offset = 0) ∧ (∃ f, fs[1]? = some f ∧ f.type = ti ∧ f.offset = 1) ∧ (∃ f, fs[2]? = some f ∧ f.type = tl ∧ f.offset = 2)
/-- Raw patterns, as they were read. -/
theorem tree_raws {tr tl ti : TypeId} (T : RawT P tr tl ti) : ∀ (fuel : Nat) (c : Value) (x : DataW Hh × List MemPlace), DataW.trod enc P w base sp held fuel tl [c] = some x → ∀ (C : Cx), (∀ b, b < w.heap.size → C.Sf b) → ∃ (v : V) (l : List Rw), Slr v l ∧ (v = .nilsl ∧ l = [] ∨ v = .arr .fresh 3 (Rw.cellsL l)) ∧ R w C v c := by
  intro fuel
  induction fuel using Nat.strongRecOn with
  | _ fuel ih =>
    intro c x h C hC
    rcases DataW.trod_slice T.sl h with ⟨h0, _⟩ | ⟨a, len, cap, elems, rest, n, hn, h0, _, _, hl, _, hlen, hel, _⟩
    · simp only [List.cons.injEq, and_true] at h0
      subst h0
      exact ⟨.nilsl, [], Slr.nil, .inl ⟨rfl, rfl⟩, .nilsl⟩
    · simp only [List.cons.injEq, and_true] at h0
      subst h0
      obtain ⟨fs, hst, ⟨f0, e0, t0, o0⟩, ⟨f1, e1, t1, o1⟩, ⟨f2, e2, t2, o2⟩⟩ := T.st
      have each : ∀ i, i < len → ∃ (r : Rw) (cv : Nat → Value), r.cells.length = 3 ∧ ∀ (j : Nat) (y : V), r.cells[j]? = some y → isCell y = true ∧ w.cell? ⟨a.block, a.off + i * 3 + j, Option.none⟩ = some (cv j) ∧ R w C.bare y (cv j) := by
        intro i hi
        have h1 := hel i hi
        rw [T.size, List.getElem?_eq_getElem (by omega)] at h1
        obtain ⟨cs, h2, h3⟩ := Option.bind_eq_some_iff.1 h1
        obtain ⟨_, hcl, hcells⟩ := World.cells?_some h2
        obtain ⟨xs, m, rfl, _, _, hxl, hf⟩ := DataW.trod_struct hst h3
        have g0 := hf 0 f0 e0
        have g1 := hf 1 f1 e1
        have g2 := hf 2 f2 e2
        have s0 : 0 < fs.size := (Array.getElem?_eq_some_iff.1 e0).1
        have s1 : 1 < fs.size := (Array.getElem?_eq_some_iff.1 e1).1
        have s2 : 2 < fs.size := (Array.getElem?_eq_some_iff.1 e2).1
        rw [List.getElem?_eq_getElem (by omega)] at g0 g1 g2
        match cs, hcl with
        | [c0, c1, c2], _ =>
        rw [t0, o0, T.one] at g0
        rw [t1, o1, T.one] at g1
        rw [t2, o2, T.onel] at g2
        simp only [List.drop_zero, List.take_succ_cons, List.take_zero, List.drop_succ_cons] at g0 g1 g2
        obtain ⟨k, hk, _, _⟩ := DataW.trod_int T.int g0
        obtain ⟨q, hq, _, _⟩ := DataW.trod_int T.int g1
        simp only [List.cons.injEq, and_true] at hk hq
        obtain ⟨v, l, hv, hsh, hR⟩ := ih m (by omega) c2 _ g2 C.bare hC
        have w0 := hcells 0 (by omega)
        have w1 := hcells 1 (by omega)
        have w2 := hcells 2 (by omega)
        have cc : ∀ (j : Nat) (z : Value), w.cell? ((a.add (i * 3)).add j) = some z → w.cell? ⟨a.block, a.off + i * 3 + j, Option.none⟩ = some z := by
          intro j z hz
          have := cell_add hz
          have hb : (a.add (i * 3)).block = a.block := by unfold Addr.add; split <;> rfl
          have ho : (a.add (i * 3)).off = a.off + i * 3 := by unfold Addr.add; split <;> simp_all
          rw [hb, ho] at this
          exact this
        have fin : ∀ r : Rw, r.cells = [.int .i64 k, .int .i64 q, v] → ∃ (r : Rw) (cv : Nat → Value), r.cells.length = 3 ∧ ∀ (j : Nat) (y : V), r.cells[j]? = some y → isCell y = true ∧ w.cell? ⟨a.block, a.off + i * 3 + j, Option.none⟩ = some (cv j) ∧ R w C.bare y (cv j) := by
          intro r hr
          refine ⟨r, fun j => [c0, c1, c2].getD j c0, by rw [hr]; rfl, fun j y hy => ?_⟩
          rw [hr] at hy
          match j, hy with
          | 0, hy =>
            simp at hy
            subst hy
            exact ⟨rfl, cc 0 _ w0, by show R w C.bare _ c0; rw [hk]; exact .int _ _⟩
          | 1, hy =>
            simp at hy
            subst hy
            exact ⟨rfl, cc 1 _ w1, by show R w C.bare _ c1; rw [hq]; exact .int _ _⟩
          | 2, hy =>
            simp at hy
            subst hy
            exact ⟨hv.cl, cc 2 _ w2, hR⟩
          | j + 3, hy => simp at hy
        rcases hsh with ⟨rfl, rfl⟩ | rfl
        · exact fin (.nul k q) rfl
        · exact fin (.mk k q l) rfl
      have pick : ∃ (g : Nat → Rw) (cv : Nat → Nat → Value), ∀ i, i < len → (g i).cells.length = 3 ∧ ∀ (j : Nat) (y : V), (g i).cells[j]? = some y → isCell y = true ∧ w.cell? ⟨a.block, a.off + i * 3 + j, Option.none⟩ = some (cv i j) ∧ R w C.bare y (cv i j) :=
        ⟨fun i => if hi : i < len then (each i hi).choose else .nul 0 0, fun i => if hi : i < len then (each i hi).choose_spec.choose else fun _ => .bool true, fun i hi => by simp only [hi, dif_pos]; exact (each i hi).choose_spec.choose_spec⟩
      obtain ⟨g, cv, hg⟩ := pick
      have hlen' : (Rw.cellsL ((List.range len).map g)).length = len := by simp [Rw.cellsL_eq]
      have key : ∀ (i : Nat) (el : List V), (Rw.cellsL ((List.range len).map g))[i]? = some el → i < len ∧ el = (g i).cells := by
        intro i el hi
        have hl : i < len := by
          have := (List.getElem?_eq_some_iff.1 hi).1
          omega
        rw [Rw.cellsL_eq, List.getElem?_map, List.getElem?_map, List.getElem?_range hl] at hi
        simp only [Option.map_some, Option.some.injEq] at hi
        exact ⟨hl, hi.symm⟩
      refine ⟨.arr .fresh 3 (Rw.cellsL ((List.range len).map g)), (List.range len).map g, Slr.arr _, .inr rfl, ?_⟩
      have := R.arr (w := w) (c := C) (f := .fresh) (sz := 3) (es := Rw.cellsL ((List.range len).map g)) (A := some a) (cap := cap) a cv (by simp) (by rw [hlen']; exact hl)
        (fun i el hi => by obtain ⟨hi', rfl⟩ := key i el hi; exact (hg i hi').1)
        (fun hne => by
          have hpos : 0 < len := by
            rcases Nat.eq_zero_or_pos len with h0 | h0
            · subst h0; simp [Rw.cellsL] at hne
            · exact h0
          have h1 := hel 0 hpos
          rw [List.getElem?_eq_getElem (by omega)] at h1
          obtain ⟨cs, h2, h3⟩ := Option.bind_eq_some_iff.1 h1
          obtain ⟨_, hcl, hcells⟩ := World.cells?_some h2
          have hz := hcells 0 (by rw [T.size]; omega)
          rw [T.size] at hcl
          match cs, hcl with
          | [c0, c1, c2], _ =>
          have hz' : w.cell? a = some c0 := by simpa [Addr.add] using hz
          obtain ⟨k1, k2, _⟩ := cell_old hz'
          exact ⟨rfl, k2, hC _ k1⟩)
        (fun i el j y hi hy => by
          obtain ⟨hi', rfl⟩ := key i el hi
          obtain ⟨k1, k2, _⟩ := (hg i hi').2 j y hy
          exact ⟨k1, k2⟩)
        (fun i el j y hi hy => by
          obtain ⟨hi', rfl⟩ := key i el hi
          exact ((hg i hi').2 j y hy).2.2)
      rw [hlen'] at this
      exact this
end
end Go.Proofs.YtcnbopgbmimkcaaGreat
end

section
set_option autoImplicit false
set_option maxRecDepth 100000
set_option linter.unusedSimpArgs false
set_option linter.unusedVariables false
namespace Go.Proofs.YtcnbopgbmimkcaaGreat
open Go Go.Fm Go.Proofs
open Go.ChangeShapes Go.WideShapes Go.ChangeAt Go.RowKit
section
variable {Hh : Type} {enc : TypeId × Value → Hh} {P : Program}
theorem post_of_below {f : Func} {s : ChangeSpec} {apart fresh handsOn again : Bool} {W W' : World} {args : Array Value} {v : Value} {ds gs : List (DataW Hh)} {before pa pv : List MemPlace}
    (hW : DataW.Whole enc P f.params.toList s.vars apart W args.toList ds gs before)
    (hres : ∀ (b : Nat) (sp : Nat → Bool) (hd : Bool), DataW.TrodAll enc P W' b sp hd f.resultTypes.toList (v.resultList f.resultTypes.size) (s.fn Hh (ds ++ gs)).results [])
    (hargs : ∀ sp : Nat → Bool, (∀ p ∈ before, sp p.block = true) → DataW.TrodAll enc P W' 0 sp true f.params.toList args.toList (s.fn Hh (ds ++ gs)).args pa)
    (hvars : ∀ sp : Nat → Bool, (∀ p ∈ before, sp p.block = true) → DataW.TrodVars enc P W' sp s.vars (s.fn Hh (ds ++ gs)).vars pv)
    (hps : before = pa ++ pv) (hb : Below W.heap.size W W')
    (hok : ∀ (j : Nat) (t : TypeId) (r : Value), f.resultTypes[j]? = some t → (v.resultList f.resultTypes.size)[j]? = some r → Value.okWide P W' .any 0 t r) :
    s.post enc P f apart fresh handsOn again W args v W' := by
  have hlt : ∀ p ∈ before, p.block < W.heap.size := fun p hp => hW.lt p hp
  have hold : ∀ p ∈ before, (fun b => decide (b < W.heap.size)) p.block = true := fun p hp => by simpa using hlt p hp
  refine ⟨ds, gs, before, [], pa, pv, hW, hres _ _ _, hargs _ hold, hvars _ hold, World.keptBut_mono (fun p hp => ⟨hp, ?_⟩) (hb.frame (· ∈ before)), fun _ => ?_⟩
  · rw [hps, List.mem_append] at hp
    exact Or.inr hp
  · obtain ⟨_, _, _, _, _, hz, hn⟩ := hW
    refine ⟨hok, _, _, ([] ++ pa) ++ pv, ⟨[] ++ pa, pv, trodAll_append (hargs _ (fun _ _ => rfl)) (hres _ _ _), hvars _ (fun _ _ => rfl), rfl, ?_, ?_⟩, ?_⟩
    · intro b off hp
      have hin : MemPlace.cell b off ∈ before := by rw [hps]; simpa using hp
      rw [hb.frozen (hlt _ hin)]
      exact hz b off hin
    · intro ha
      have := hn ha
      rw [hps] at this
      simpa using this
    · intro p hp _
      rw [hps]
      simpa using hp
theorem trodAll_stays (hl : laidOutB P = true) {W W' : World} (hb : Below W.heap.size W W') {sp : Nat → Bool} : ∀ (ts : List TypeId) (vs : List Value) (ds : List (DataW Hh)) (ps : List MemPlace), (∀ t ∈ ts, P.readableRec t = true ∧ t < P.types.size) →
    DataW.TrodAll enc P W 0 (fun _ => true) true ts vs ds ps → (∀ x ∈ ps, x.block < W.heap.size ∧ sp x.block = true) → DataW.TrodAll enc P W' 0 sp true ts vs ds ps := by
  intro ts
  induction ts with
  | nil =>
    intro vs ds ps ht h hp
    obtain ⟨rfl, rfl, rfl⟩ := trodAll_nil h
    exact rfl
  | cons t ts ih =>
    intro vs ds ps ht h hp
    obtain ⟨v, vs', d, ds', p, q, rfl, rfl, rfl, hd, hrest⟩ := trodAll_cons h
    have h1 := ht t (List.mem_cons_self ..)
    exact ⟨p, q, WideElems.Trod_stays hl h1.1 h1.2 hd (fun x hx => hb.same (hp x (List.mem_append_left _ hx)).1) (fun x hx => (hp x (List.mem_append_left _ hx)).2),
      ih vs' ds' q (fun t' h' => ht t' (List.mem_cons_of_mem _ h')) hrest (fun x hx => hp x (List.mem_append_right _ hx)), rfl⟩
/-- What a whole world is to the machine: all at rest. -/
def rowC (W : World) : Cx := { μ := fun _ => none, A := fun _ => False, Sf := fun b => b < W.heap.size, So := fun _ => False }
theorem enter_plain_all : ∀ (xs : List V) (n : Nat), (∀ a ∈ xs, plain a = true) → enterA xs n = (xs, [], [])
  | [], n, _ => rfl
  | a :: xs, n, h => by
    rw [enterA_plain' (h a (List.mem_cons_self ..)), enter_plain_all xs n fun b hb => h b (List.mem_cons_of_mem _ hb)]
/-- A law that answers true in the machine answers true, and leaves all xs it was. -/
theorem law_calls {P : Program} {T : FuncId → Option Def} (Vd : Valid P T) {f : FuncId} {d : Def} (hd : T f = some d) {xs : List V} (hp : ∀ a ∈ xs, plain a = true) (hc : call T f xs = some (.bool true, [])) {W : World} {us : Array Value} (hR : Rs W (rowC W) xs us.toList) :
    Calls P f us W fun e W' => e = .returned (.bool true) ∧ Below W.heap.size W W' := by
  have he := enter_plain_all xs 0 hp
  have hin : In W (rowC W) xs us.toList := by
    refine ⟨⟨fun id th h => ?_, fun id _ => ?_, fun id th l h => ?_, fun id th l h => ?_, fun i j th th' l l' _ h => ?_, fun b h => ?_⟩, fun i => ?_, ?_⟩
    · simp [inH, he] at h
    · simp [inH, he]
    · simp [inH, he] at h
    · simp [inH, he] at h
    · simp [inH, he] at h
    · rcases h with h | h
      · exact h
      · exact h.elim
    · simp [he, rowC]
    · rw [he]; exact hR
  refine (call_sound Vd hd xs _ hc W (rowC W) us hin).mono fun e W' ⟨u, hu, hb⟩ => ?_
  obtain ⟨_, hback⟩ := hb
  obtain ⟨c1, ht, _, _, hr⟩ := hback 0 [] (by simp [he]) List.nodup_nil (by simp)
  have hu' : u = .bool true := by
    have : R W' c1 (.bool true) u := hr
    cases this
    rfl
  refine ⟨by rw [hu, hu'], ht.os, ht.tape, ht.output, ht.size, fun k hk => ht.same k hk ?_⟩
  rintro ⟨id, th, l, h1, _⟩
  simp [inH, he] at h1
end
end Go.Proofs.YtcnbopgbmimkcaaGreat
end
