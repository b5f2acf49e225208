/- MeanTimes: so many times is one behind the other; from Lo to Hi is any of them. Proved for every input, with no further condition. -/
import Derived.Test.YtcnbopgbmimkcaaGreatStars
set_option linter.all false
set_option linter.unusedSimpArgs false
set_option linter.unusedVariables false
set_option linter.unnecessarySimpa false
set_option linter.unusedSectionVars false
section
set_option autoImplicit false
set_option maxRecDepth 100000
set_option linter.unusedSimpArgs false
set_option linter.unusedVariables false
namespace Go.Proofs.YtcnbopgbmimkcaaGreat
open Go Go.Fm Go.Proofs
/-! A heap that keeps what rows hold. -/
def Keeps (L L' : Heap) : Prop := ∀ id, (∀ sz wr cl es, L.get id = some (.row sz wr cl es) → ∃ wr', L'.get id = some (.row sz wr' cl es)) ∧ (∀ wr es, L.get id = some (.map wr es) → ∃ wr', L'.get id = some (.map wr' es))
theorem Keeps.refl (L : Heap) : Keeps L L := fun id => ⟨fun sz wr cl es h => ⟨wr, h⟩, fun wr es h => ⟨wr, h⟩⟩
theorem Keeps.trans {L L' L'' : Heap} (h : Keeps L L') (h' : Keeps L' L'') : Keeps L L'' := fun id => ⟨fun sz wr cl es k => by
  obtain ⟨w1, k1⟩ := (h id).1 _ _ _ _ k
  exact (h' id).1 _ _ _ _ k1, fun wr es k => by
  obtain ⟨w1, k1⟩ := (h id).2 _ _ k
  exact (h' id).2 _ _ k1⟩
theorem Keeps.put {L : Heap} {id : Nat} {o : Option Thing} (h : L.get id = Option.none ∨ ∃ cs, L.get id = some (.box cs)) : Keeps L (L.put id o) := fun i => by
  by_cases hi : i = id
  · subst hi
    refine ⟨fun sz wr cl es k => ?_, fun wr es k => ?_⟩
    · rcases h with h | ⟨cs, h⟩ <;> rw [h] at k <;> cases k
    · rcases h with h | ⟨cs, h⟩ <;> rw [h] at k <;> cases k
  · refine ⟨fun sz wr cl es k => ⟨wr, ?_⟩, fun wr es k => ⟨wr, ?_⟩⟩
    · rw [Tr.get_put_ne _ _ _ _ (by omega)]; exact k
    · rw [Tr.get_put_ne _ _ _ _ (by omega)]; exact k
theorem Keeps.freeze1 (L : Heap) (id : Nat) : Keeps L (freeze1 L id) := fun i => by
  unfold Fm.freeze1
  split
  · rename_i sz cl es hg
    by_cases hi : i = id
    · subst hi
      refine ⟨fun sz' wr' cl' es' k => ?_, fun wr es k => ?_⟩
      · rw [hg] at k
        cases k
        exact ⟨false, by simp⟩
      · rw [hg] at k; cases k
    · refine ⟨fun sz wr cl es k => ⟨wr, ?_⟩, fun wr es k => ⟨wr, ?_⟩⟩
      · rw [Tr.get_put_ne _ _ _ _ (by omega)]; exact k
      · rw [Tr.get_put_ne _ _ _ _ (by omega)]; exact k
  · rename_i es hg
    by_cases hi : i = id
    · subst hi
      refine ⟨fun sz' wr' cl' es' k => ?_, fun wr es k => ?_⟩
      · rw [hg] at k; cases k
      · rw [hg] at k
        cases k
        exact ⟨false, by simp⟩
    · refine ⟨fun sz wr cl es k => ⟨wr, ?_⟩, fun wr es k => ⟨wr, ?_⟩⟩
      · rw [Tr.get_put_ne _ _ _ _ (by omega)]; exact k
      · rw [Tr.get_put_ne _ _ _ _ (by omega)]; exact k
  · exact ⟨fun sz wr cl es k => ⟨wr, k⟩, fun wr es k => ⟨wr, k⟩⟩
theorem Keeps.freeze : ∀ (ids : List Nat) (L : Heap), Keeps L (Fm.freeze L ids)
  | [], L => Keeps.refl L
  | i :: is, L => (Keeps.freeze1 L i).trans (Keeps.freeze is _)
theorem freeze1_get_box {L : Heap} {id i : Nat} {cs : List V} (h : L.get i = some (.box cs)) : (freeze1 L id).get i = some (.box cs) := by
  unfold Fm.freeze1
  split
  · rename_i hg
    have : id ≠ i := fun e => by rw [e, h] at hg; cases hg
    rw [Tr.get_put_ne _ _ _ _ this]; exact h
  · rename_i hg
    have : id ≠ i := fun e => by rw [e, h] at hg; cases hg
    rw [Tr.get_put_ne _ _ _ _ this]; exact h
  · exact h
theorem freeze_get_box : ∀ (ids : List Nat) {L : Heap} {i : Nat} {cs : List V}, L.get i = some (.box cs) → (Fm.freeze L ids).get i = some (.box cs)
  | [], L, i, cs, h => h
  | id :: ids, L, i, cs, h => freeze_get_box ids (freeze1_get_box h)
theorem freeze1_get_none {L : Heap} {id i : Nat} (h : L.get i = Option.none) : (freeze1 L id).get i = Option.none := by
  unfold Fm.freeze1
  split
  · rename_i hg
    have : id ≠ i := fun e => by rw [e, h] at hg; cases hg
    rw [Tr.get_put_ne _ _ _ _ this]; exact h
  · rename_i hg
    have : id ≠ i := fun e => by rw [e, h] at hg; cases hg
    rw [Tr.get_put_ne _ _ _ _ this]; exact h
  · exact h
theorem freeze_get_none : ∀ (ids : List Nat) {L : Heap} {i : Nat}, L.get i = Option.none → (Fm.freeze L ids).get i = Option.none
  | [], L, i, h => h
  | id :: ids, L, i, h => freeze_get_none ids (freeze1_get_none h)
theorem mapO_mono {α β : Type} {f g : α → Option β} (h : ∀ a b, f a = some b → g a = some b) : ∀ (l : List α) (r : List β), mapO f l = some r → mapO g l = some r
  | [], r, k => k
  | a :: l, r, k => by
    rw [mapO_cons'] at k ⊢
    obtain ⟨y, h1, k⟩ := Option.bind_eq_some_iff.1 k
    obtain ⟨ys, h2, k⟩ := Option.bind_eq_some_iff.1 k
    rw [h a y h1, Option.bind_some, mapO_mono h l ys h2, Option.bind_some]
    exact k
/-- What is laid open stays so. -/
theorem dr_keeps {L L' : Heap} (h : Keeps L L') : ∀ (d : Nat) (v r : V), dr L.get .fresh d v = some r → dr L'.get .fresh d v = some r
  | 0, v, r, k => by simp [dr] at k
  | d + 1, v, r, k => by
    have ih := dr_keeps h d
    cases v with
    | sl id sz off len =>
      cases hg : L.get id with
      | none => simp [dr, hg] at k
      | some t =>
        cases t with
        | box cs => simp [dr, hg] at k
        | map w es => simp [dr, hg] at k
        | row sz' wr cl es =>
          obtain ⟨wr', h'⟩ := (h id).1 _ _ _ _ hg
          simp only [dr, hg] at k
          simp only [dr, h']
          split at k
          · rename_i hle
            rw [if_pos hle]
            obtain ⟨es2, k1, k2⟩ := Option.map_eq_some_iff.1 k
            have : (if cl = true then some ((es.drop off).take len) else mapO (mapO (dr L'.get .fresh d)) ((es.drop off).take len)) = some es2 := by
              split at k1
              · rename_i hcl
                rw [if_pos hcl]; exact k1
              · rename_i hcl
                rw [if_neg hcl]; exact mapO_mono (fun a b => mapO_mono ih a b) _ _ k1
            rw [this, Option.map_some, ← k2]
            cases wr <;> cases wr' <;> rfl
          · cases k
    | pt id idx sub =>
      cases hg : L.get id with
      | none => simp [dr, hg] at k
      | some t => cases t <;> simp [dr, hg] at k
    | mp id =>
      cases hg : L.get id with
      | none => simp [dr, hg] at k
      | some t =>
        cases t with
        | box cs => simp [dr, hg] at k
        | row sz' wr cl es => simp [dr, hg] at k
        | map w es =>
          obtain ⟨wr', h'⟩ := (h id).2 _ _ hg
          simp only [dr, hg] at k
          simp only [dr, h']
          rw [← k]
          cases w <;> cases wr' <;> rfl
    | agg cs =>
      simp only [dr] at k ⊢
      obtain ⟨r1, k1, k2⟩ := Option.map_eq_some_iff.1 k
      rw [mapO_mono ih _ _ k1, ← k2]
      rfl
    | tup cs =>
      simp only [dr] at k ⊢
      obtain ⟨r1, k1, k2⟩ := Option.map_eq_some_iff.1 k
      rw [mapO_mono ih _ _ k1, ← k2]
      rfl
    | fn f a b =>
      simp only [dr] at k ⊢
      obtain ⟨r1, k1, k2⟩ := Option.bind_eq_some_iff.1 k
      obtain ⟨r2, k3, k4⟩ := Option.map_eq_some_iff.1 k2
      rw [mapO_mono ih _ _ k1, Option.bind_some, mapO_mono ih _ _ k3, ← k4]
      rfl
    | arr f sz es => cases f <;> first | exact k | (simp [dr] at k)
    | map f es => cases f <;> first | exact k | (simp [dr] at k)
    | _ => exact k
theorem drL_keeps {L L' : Heap} (h : Keeps L L') {d : Nat} {cs r : List V} (k : mapO (dr L.get .fresh d) cs = some r) : mapO (dr L'.get .fresh d) cs = some r := mapO_mono (dr_keeps h d) _ _ k
end Go.Proofs.YtcnbopgbmimkcaaGreat
end

section
set_option autoImplicit false
set_option maxRecDepth 100000
set_option linter.unusedSimpArgs false
set_option linter.unusedVariables false
namespace Go.Proofs.YtcnbopgbmimkcaaGreat
open Go Go.Fm Go.Proofs
/-! So many times: the plain law. -/
def rowPx (x : Px) : Nat → Px
  | 0 => .none
  | n + 1 => .cat (rowPx x n) x
theorem rowPx_ok (x : Px) (hx : x.ok = true) : ∀ n, (rowPx x n).ok = true
  | 0 => rfl
  | n + 1 => by simp [rowPx, Px.ok, rowPx_ok x hx n, hx]
theorem rowPx_mat (sc : List Int) (x : Px) : ∀ (n i j w : Nat), (rowPx x n).mat sc i j w ↔ Pow (x.mat sc) n i j w
  | 0, i, j, w => Iff.rfl
  | n + 1, i, j, w => by
    constructor
    · rintro ⟨k, u, v, h1, h2, rfl⟩
      exact Pow_snoc ((rowPx_mat sc x n _ _ _).1 h1) h2
    · intro h
      obtain ⟨k, u, v, h1, ⟨l, p, q, h2, h3, h4⟩, h5⟩ := Pow_split n 1 i j w h
      obtain ⟨rfl, rfl⟩ := h3
      exact ⟨k, u, p, (rowPx_mat sc x n _ _ _).2 h1, h2, by omega⟩
/-- The least so far. -/
def accF (f : Nat → Int) (a : Nat) : Nat → Int
  | 0 => INF
  | n + 1 => if a ≤ n then min (accF f a n) (f n) else accF f a n
theorem accF_le (f : Nat → Int) (a : Nat) : ∀ n m, a ≤ m → m < n → accF f a n ≤ f m
  | 0, m, _, h => by omega
  | n + 1, m, h1, h2 => by
    unfold accF
    by_cases hm : m = n
    · subst hm
      rw [if_pos h1]
      omega
    · have := accF_le f a n m h1 (by omega)
      split <;> omega
theorem accF_att (f : Nat → Int) (a : Nat) : ∀ n, accF f a n = INF ∨ ∃ m, a ≤ m ∧ m < n ∧ accF f a n = f m
  | 0 => .inl rfl
  | n + 1 => by
    unfold accF
    split
    · rename_i hn
      by_cases hle : accF f a n ≤ f n
      · rw [Int.min_eq_left hle]
        rcases accF_att f a n with h | ⟨m, h1, h2, h3⟩
        · exact .inl h
        · exact .inr ⟨m, h1, by omega, h3⟩
      · rw [Int.min_eq_right (by omega)]
        exact .inr ⟨n, hn, by omega, rfl⟩
    · rcases accF_att f a n with h | ⟨m, h1, h2, h3⟩
      · exact .inl h
      · exact .inr ⟨m, h1, by omega, h3⟩
def costF (sc : List Int) (k : Nat) (x : Px) : Int := ((x.run sc (zerosI (sc.length + 1)))[k]?).getD 0
theorem costF_at (sc : List Int) (k : Nat) (hk : k ≤ sc.length) (x : Px) (hx : x.ok = true) : costF sc k x = at' (x.run sc (zerosI (sc.length + 1))) k := by
  have := at_in ((x.rep sc hx).gd _ (zeros_gd _)) (show k < sc.length + 1 by omega)
  unfold costF
  rw [this]
  rfl
theorem times_least (sc : List Int) (x : Px) (hx : x.ok = true) (k : Nat) (hk : k ≤ sc.length) (a b : Nat) (hab : a ≤ b) (hb : b < 12) : costF sc k (.times x a b) = accF (fun n => costF sc k (rowPx x n)) a (b + 1) := by
  have ht : (Px.times x a b).ok = true := by simp [Px.ok, hx, hab, hb]
  have hr := (Px.times x a b).rep sc ht
  have hz := zeros_gd (sc.length + 1)
  have hrow := fun n => (rowPx x n).rep sc (rowPx_ok x hx n)
  rw [costF_at sc k hk _ ht]
  apply Int.le_antisymm
  · rcases accF_att (fun n => costF sc k (rowPx x n)) a (b + 1) with e | ⟨m, h1, h2, e⟩
    · rw [e]; exact at_le (hr.gd _ hz) k
    · rw [e, costF_at sc k hk _ (rowPx_ok x hx m)]
      refine hr.le (hrow m) (fun i j w h => ?_) _ hz k (by omega)
      exact ⟨w, Nat.le_refl _, m, h1, by omega, (rowPx_mat sc x m _ _ _).1 h⟩
  · rcases hr.att _ hz k (by omega) with e | ⟨i, w, ⟨m, h1, h2, hp⟩, e⟩
    · rw [e]
      have hl := accF_le (fun n => costF sc k (rowPx x n)) a (b + 1) a (Nat.le_refl _) (by omega)
      have := at_le ((hrow a).gd _ hz) k
      rw [← costF_at sc k hk _ (rowPx_ok x hx a)] at this
      exact Int.le_trans hl this
    · rw [e]
      have hl := accF_le (fun n => costF sc k (rowPx x n)) a (b + 1) m h1 (by omega)
      have h3 := (hrow m).lo _ hz i k w (by omega) ((rowPx_mat sc x m _ _ _).2 hp)
      rw [← costF_at sc k hk _ (rowPx_ok x hx m)] at h3
      exact Int.le_trans hl h3
end Go.Proofs.YtcnbopgbmimkcaaGreat
end

section
set_option autoImplicit false
set_option maxRecDepth 100000
set_option linter.unusedSimpArgs false
set_option linter.unusedVariables false
namespace Go.Proofs.YtcnbopgbmimkcaaGreat
open Go Go.Fm Go.Proofs
structure RowIs (L : Heap) (cs : List V) (x : Px) (n : Nat) : Prop where
  len : cs.length = 6
  cell : cs.all isCell = true
  zero : n = 0 → cs = Px.none.cells
  ref : 0 < n → cs.any hasRef = true
  dr : ∀ d, n ≤ d → 1 ≤ d → mapO (dr L.get .fresh d) cs = some (rowPx x n).cells
theorem RowIs.keeps {L L' : Heap} {cs : List V} {x : Px} {n : Nat} (h : RowIs L cs x n) (k : Keeps L L') : RowIs L' cs x n := ⟨h.len, h.cell, h.zero, h.ref, fun d h1 h2 => drL_keeps k (h.dr d h1 h2)⟩
theorem RowIs.succ {L L' : Heap} {cs : List V} {x : Px} {n id : Nat} (h : RowIs L cs x n) (k : Keeps L L') (hL : L'.get id = some (.row 6 true (!([cs, x.cells].any fun e => e.any hasRef)) [cs, x.cells])) :
    RowIs L' [.int .i64 4, .int .i64 0, .int .i64 0, .int .i64 0, .str [], .sl id 6 0 2] x (n + 1) := by
  refine ⟨rfl, rfl, fun h => by omega, fun _ => rfl, fun d h1 h2 => ?_⟩
  obtain ⟨d, rfl⟩ : ∃ e, d = e + 1 := ⟨d - 1, by omega⟩
  have key : Fm.dr L'.get .fresh (d + 1) (.sl id 6 0 2) = some (.arr .fresh 6 [(rowPx x n).cells, x.cells]) := by
    rw [dr_slU, hL]
    by_cases hn : n = 0
    · have hz := h.zero hn
      subst hn
      have hb : (!([cs, x.cells].any fun e => e.any hasRef)) = true := by
        simp only [List.any_cons, List.any_nil, px_hasRef, hz, Bool.or_false, Bool.not_false]
      rw [hb, drU_clean (show 2 = [cs, x.cells].length from rfl), hz]
      rfl
    · have hr := h.ref (by omega)
      have hb : (!([cs, x.cells].any fun e => e.any hasRef)) = false := by
        simp only [List.any_cons, List.any_nil, hr, Bool.true_or, Bool.not_true]
      obtain ⟨e, rfl⟩ : ∃ e, d = e + 1 := ⟨d - 1, by omega⟩
      have := drL_keeps k (h.dr (e + 1) (by omega) (by omega))
      rw [hb, drU_unclean (show 2 = [cs, x.cells].length from rfl)]
      simp only [mapO_nil', mapO_cons', this, dr_px, Option.bind_some, Option.map_some, if_true]
  simp only [mapO_nil', mapO_cons', dr_int', dr_str', key, Option.bind_some]
  rfl
theorem times_next {L L1 : Heap} {cs d : List V} {x : Px} {n nx : Nat} (k : Keeps L L1) (h0 : L1.get 0 = some (.box d)) (h1 : L1.get 1 = some (.box x.cells)) (h3 : L1.get 3 = some (.box cs)) (hnx : 4 ≤ nx) (htop : ∀ id, nx ≤ id → L1.get id = Option.none) (hrow : RowIs L cs x n) (c' : List V)
    (hc : c' = [.int .i64 4, .int .i64 0, .int .i64 0, .int .i64 0, .str [], .sl nx 6 0 2]) :
    let L3 := (Tr.put L1 nx (some (.row 6 true (!cs.any hasRef) [cs, x.cells]))).put 3 (some (.box c'))
    L3.get 0 = some (.box d) ∧ L3.get 1 = some (.box x.cells) ∧ L3.get 3 = some (.box c') ∧ (∀ id, nx + 1 ≤ id → L3.get id = Option.none) ∧ RowIs L3 c' x (n + 1) := by
  subst hc
  have hb : (!([cs, x.cells].any fun e => e.any hasRef)) = !cs.any hasRef := by
    simp only [List.any_cons, List.any_nil, px_hasRef, Bool.or_false]
  have h3' : (Tr.put L1 nx (some (.row 6 true (!cs.any hasRef) [cs, x.cells]))).get 3 = some (.box cs) := by
    rw [Tr.get_put_ne _ _ _ _ (by omega)]; exact h3
  refine ⟨?_, ?_, ?_, fun id hid => ?_, ?_⟩
  · rw [Tr.get_put_ne _ _ _ _ (by omega), Tr.get_put_ne _ _ _ _ (by omega)]; exact h0
  · rw [Tr.get_put_ne _ _ _ _ (by omega), Tr.get_put_ne _ _ _ _ (by omega)]; exact h1
  · simp
  · rw [Tr.get_put_ne _ _ _ _ (by omega), Tr.get_put_ne _ _ _ _ (by omega)]; exact htop id (by omega)
  · refine (hrow.keeps k).succ ((Keeps.put (.inl (htop nx (Nat.le_refl _)))).trans (Keeps.put (.inr ⟨cs, h3'⟩))) ?_
    rw [Tr.get_put_ne _ _ _ _ (by omega), hb]
    simp
set_option maxHeartbeats 2000000
theorem times_walk (x : Px) (hx : x.ok = true) (sc : List Int) (hsl : sc.length < 900000) (k a b : Nat) (hk : k ≤ sc.length) (hb : b ≤ 5) (vs : V) (hvs : Slc vs sc)
    (hC : ∀ y : Px, y.ok = true → call T F_mean_Cost [.agg y.cells, fileV .nilsl, vs, .int .i64 (k : Int)] = some (.int .i64 (costF sc k y), [])) (hab : a ≤ b) : ∀ (m n : Nat) (env : Tr V) (L : Heap) (nx : Nat) (cs : List V), m = b + 1 - n → n ≤ b + 1 →
    Fm.look env 11 = .pt 0 0 0 → Fm.look env 12 = .pt 1 0 0 → Fm.look env 14 = vs → Fm.look env 15 = .int .i64 (k : Int) → Fm.look env 16 = .int .i64 (a : Int) → Fm.look env 17 = .int .i64 (b : Int) →
    Fm.look env 18 = .int .i64 (accF (fun n => costF sc k (rowPx x n)) a n) → Fm.look env 19 = .pt 3 0 0 → Fm.look env 20 = .int .i64 (n : Int) →
    L.get 0 = some (.box [defsV, .nilsl]) → L.get 1 = some (.box x.cells) → L.get 3 = some (.box cs) → 4 ≤ nx → (∀ id, nx ≤ id → L.get id = Option.none) → RowIs L cs x n →
    Fm.run T fi_hyphenlaw6_MeanTimes [.inL c_hyphenlaw6_MeanTimes_8, .inB 0, .code c_hyphenlaw6_MeanTimes_0] ⟨env, L, nx, []⟩ = some (.bool true, []) := by
  have hpl := hvs.pl
  have hpl' := hvs.pl'
  have hfile : plain (fileV .nilsl) = true := rfl
  have hlast := hC (.times x a b) (by simp [Px.ok, hx, hab]; omega)
  have hsame := times_least sc x hx k hk a b hab (by omega)
  have e7 : [V.int .i64 7, .int .i64 (a : Int), .int .i64 (b : Int), .int .i64 0, .str [], .arr .fresh 6 [x.cells]] = (Px.times x a b).cells := rfl
  intro m
  induction m with
  | zero =>
    intro n env L nx cs hm hn h11 h12 h14 h15 h16 h17 h18 h19 h20 hL0 hL1 hL3 hnx htop hrow
    have : ¬ ((b : Int) + 1 ≤ (b : Int)) := by omega
    have hn' : n = b + 1 := by omega
    subst hn'
    rw [← hsame] at h18
    rw [run_inL]
    simp (disch := first | omega | assumption | simp) [-List.all_eq_true, -List.any_eq_true, -List.any_eq_false, px_hasRef, h11, h12, h14, h15, h16, h17, h18, h19, h20, hL0, hL1, hL3, this, hlast, finQ_agg, finQ_tup2, finQ_pl, store_bx, storeBx_box, passV_agg, passAg_some, mapO_nil', mapO_cons', dr_int', dr_str', dr_slU, drU_clean, drU_unclean, refs_slU, refsU_clean, refsU_unclean, refs_int', refs_str', dr_px, refs_px, e7]
  | succ m ih =>
    intro n env L nx cs hm hn h11 h12 h14 h15 h16 h17 h18 h19 h20 hL0 hL1 hL3 hnx htop hrow
    have hle : (n : Int) ≤ (b : Int) := by omega
    have hcl := hrow.len
    have hcc := hrow.cell
    have hdr := hrow.dr 5 (by omega) (by omega)
    have hrowok := rowPx_ok x hx n
    have hcost := hC (rowPx x n) hrowok
    have htk : cs.take 6 = cs := List.take_of_length_le (by omega)
    have hge6 : 6 ≤ cs.length := by omega
    rw [run_inL]
    by_cases ha : a ≤ n
    · have hge : (n : Int) ≥ (a : Int) := by omega
      have hbox := fun ids => freeze_get_box ids hL3
      have hbox1 := fun ids => freeze_get_box ids hL1
      have hbox0 := fun ids => freeze_get_box ids hL0
      simp (disch := first | omega | assumption | simp) [-List.all_eq_true, -List.any_eq_true, -List.any_eq_false, px_hasRef, h11, h12, h14, h15, h16, h17, h18, h19, h20, hL0, hL1, hL3, hle, hge, hcost, hdr, htk, hcl, hcc, hbox, hbox0, hbox1, finQ_agg, finQ_tup2, finQ_pl, store_bx, storeBx_box, passV_agg, passAg_some]
      obtain ⟨k0, k1, k3, k4, k5⟩ := times_next (Keeps.freeze (List.flatMap (refs (Tr.get L) 5) cs) L) (hbox0 _) (hbox1 _) (hbox _) hnx (fun id hid => freeze_get_none _ (htop id hid)) hrow _ rfl
      refine ih (n + 1) _ _ _ _ (by omega) (by omega) (by simp [h11]) (by simp [h12]) (by simp [h14]) (by simp [h15]) (by simp [h16]) (by simp [h17]) ?_ (by simp [h19]) (by simp) k0 k1 k3 (by omega) k4 k5
      simp [accF, ha]
    · have hge : ¬ (n : Int) ≥ (a : Int) := by omega
      simp (disch := first | omega | assumption | simp) [-List.all_eq_true, -List.any_eq_true, -List.any_eq_false, px_hasRef, h11, h12, h14, h15, h16, h17, h18, h19, h20, hL0, hL1, hL3, hle, hge, hcost, hdr, htk, hcl, hcc, finQ_agg, finQ_tup2, finQ_pl, store_bx, storeBx_box, passV_agg, passAg_some]
      obtain ⟨k0, k1, k3, k4, k5⟩ := times_next (Keeps.refl L) hL0 hL1 hL3 hnx htop hrow _ rfl
      refine ih (n + 1) _ _ _ _ (by omega) (by omega) (by simp [h11]) (by simp [h12]) (by simp [h14]) (by simp [h15]) (by simp [h16]) (by simp [h17]) ?_ (by simp [h19]) (by simp) k0 k1 k3 (by omega) k4 k5
      simp [accF, ha, h18]
end Go.Proofs.YtcnbopgbmimkcaaGreat
end

section
set_option autoImplicit false
set_option maxRecDepth 100000
set_option linter.unusedSimpArgs false
set_option linter.unusedVariables false
namespace Go.Proofs.YtcnbopgbmimkcaaGreat
open Go Go.Fm Go.Proofs
set_option maxHeartbeats 4000000
theorem Times_eq {v vt : V} {l : List Rw} {ns : List Int} (hv : Slr v l) (ht : Slc vt ns) (a lo hi : Int) : call T F_hyphenlaw6_MeanTimes [v, vt, .int .i64 a, .int .i64 lo, .int .i64 hi] = some (.bool true, []) := by
  have hpl := hv.pl
  have hpl' := hv.pl'
  have htp := ht.pl
  have htp' := ht.pl'
  have hk := known_eq
  have hd := Defs_eq
  obtain ⟨b, hfew⟩ := Few_eq hv
  cases b with
  | false =>
    rw [call_code T T_hyphenlaw6_MeanTimes, enter_args (by simp [hpl, hpl', htp, htp'])]
    simp (disch := first | omega | assumption | simp) [hk, hfew]
  | true =>
  obtain ⟨x, y, hx, hy, hs⟩ := sides_eq hv
  obtain ⟨sc, hsl, hText⟩ := Text_eq ht 5 (by omega)
  have hText5 : call T F_hyphenlaw6_Text [vt, .int .i64 5] = some (slI sc, []) := hText
  have hvs := Slc.slI sc
  have hlen := hvs.len
  have hsp := hvs.pl
  have hsp' := hvs.pl'
  have hsc := hvs.cl
  have hsn := hvs.no
  have hw := within6_eq a (sc.length + 1) (by omega) (by omega)
  have hw0 := wth_nn (a := a) (n := (sc.length : Int) + 1) (by omega)
  have hw1 := wth_lt (a := a) (n := (sc.length : Int) + 1) (by omega)
  obtain ⟨k, hk'⟩ : ∃ k : Nat, wth a (sc.length + 1) = k := ⟨(wth a (sc.length + 1)).toNat, by omega⟩
  rw [hk'] at hw hw0 hw1
  have ha := within6_eq lo 4 (by omega) (by omega)
  have ha0 := wth_nn (a := lo) (n := 4) (by omega)
  have ha1 := wth_lt (a := lo) (n := 4) (by omega)
  obtain ⟨p, hp⟩ : ∃ p : Nat, wth lo 4 = p := ⟨(wth lo 4).toNat, by omega⟩
  rw [hp] at ha ha0 ha1
  have hb := within6_eq hi 3 (by omega) (by omega)
  have hb0 := wth_nn (a := hi) (n := 3) (by omega)
  have hb1 := wth_lt (a := hi) (n := 3) (by omega)
  obtain ⟨q, hq⟩ : ∃ q : Nat, wth hi 3 = q := ⟨(wth hi 3).toNat, by omega⟩
  rw [hq] at hb hb0 hb1
  have hC : ∀ z : Px, z.ok = true → call T F_mean_Cost [.agg z.cells, fileV .nilsl, slI sc, .int .i64 (k : Int)] = some (.int .i64 (costF sc k z), []) := fun z hz => Cost_eq z hz sc (by omega) k (by omega)
  generalize slI sc = vs at *
  have epq : (p : Int) + (q : Int) = ((p + q : Nat) : Int) := by omega
  rw [call_code T T_hyphenlaw6_MeanTimes, enter_args (by simp [hpl, hpl', htp, htp'])]
  simp (disch := first | omega | assumption | simp) [-List.all_eq_true, -List.any_eq_true, -List.any_eq_false, -Int.natCast_add, px_hasRef, hk, hfew, hd, hs, hText5, hlen, hw, ha, hb, epq, finQ_agg, finQ_tup2, finQ_pl, store_bx, storeBx_box]
  refine times_walk x hx sc (by omega) k p (p + q) (by omega) (by omega) vs hvs hC (by omega) (p + q + 1) 0 _ _ _ Px.none.cells (by omega) (by omega) (by simp) (by simp) (by simp) (by simp) (by simp) (by simp) (by simp [accF, INF]) (by simp) (by simp) (by simp) (by simp) (by simp [Px.cells]) (by omega) (fun id hid => ?_) ⟨rfl, rfl, fun _ => rfl, fun h => by omega, fun d h1 h2 => ?_⟩
  · rw [Tr.get_put_ne _ _ _ _ (by omega), Tr.get_put_ne _ _ _ _ (by omega), Tr.get_put_ne _ _ _ _ (by omega), Tr.get_put_ne _ _ _ _ (by omega), Tr.get_put_ne _ _ _ _ (by omega), Tr.get_put_ne _ _ _ _ (by omega), Tr.get_put_ne _ _ _ _ (by omega), Tr.get_put_ne _ _ _ _ (by omega)]
    exact Tr.get_e id
  · obtain ⟨e, rfl⟩ : ∃ e, d = e + 1 := ⟨d - 1, by omega⟩
    exact dr_px _ _ _ Px.none
end Go.Proofs.YtcnbopgbmimkcaaGreat
end

section
set_option autoImplicit false
set_option maxRecDepth 100000
set_option linter.unusedSimpArgs false
set_option linter.unusedVariables false
namespace Go.Proofs.YtcnbopgbmimkcaaGreat
open Go Go.Fm Go.Proofs
open Go.ChangeShapes Go.WideShapes Go.ChangeAt Go.RowKit
theorem times_contract (H : Type) (enc : TypeId × Value → H) (W : World) (base : Nat) (args : Array Value) (ds gs : List (DataW H)) (before : List MemPlace)
    (hval : ∀ (j : Nat) t v, Tryz.f5.params[j]? = some t → args[j]? = some v → Value.okWide Tryz.prog W .any base t v)
    (hW : DataW.Whole enc Tryz.prog Tryz.f5.params.toList Rows.meanTimesSpec.vars false W args.toList ds gs before) :
    Calls Tryz.prog 5 args W fun e W' => ∃ v, e = .returned v ∧ Rows.meanTimesSpec.post enc Tryz.prog Tryz.f5 false true false false W args v W' := by
  have hW' := hW
  obtain ⟨p, q, hA0, hV, rfl, hfz, hnd⟩ := hW
  have hA : DataW.TrodAll enc Tryz.prog W 0 (fun _ => true) true Tryz.f5.params.toList args.toList ds p := hA0
  rw [Tryz.params5] at hA hval
  obtain ⟨v0, vs0, d0, ds0, p0, q0, hargs, rfl, rfl, h0, r0⟩ := trodAll_cons hA
  obtain ⟨v1, vs1, d1, ds1, p1, q1, rfl, rfl, rfl, h1, r1⟩ := trodAll_cons r0
  obtain ⟨v2, vs2, d2, ds2, p2, q2, rfl, rfl, rfl, h2, r2⟩ := trodAll_cons r1
  obtain ⟨v3, vs3, d3, ds3, p3, q3, rfl, rfl, rfl, h3, r3⟩ := trodAll_cons r2
  obtain ⟨v4, vs4, d4, ds4, p4, q4, rfl, rfl, rfl, h4, r4⟩ := trodAll_cons r3
  obtain ⟨rfl, rfl, rfl⟩ := trodAll_nil r4
  obtain rfl : args = #[v0, v1, v2, v3, v4] := by cases args; simp_all
  obtain ⟨rfl, rfl⟩ := trodVars_none hV
  obtain ⟨x0, l, s0, r0⟩ := arg_raws (hval 0 22 v0 rfl rfl) h0
  obtain ⟨x1, ns, s1, r1⟩ := arg_ints (hval 1 23 v1 rfl rfl) h1
  obtain ⟨n2, r2⟩ := arg_int (hval 2 3 v2 rfl rfl) h2
  obtain ⟨n3, r3⟩ := arg_int (hval 3 3 v3 rfl rfl) h3
  obtain ⟨n4, r4⟩ := arg_int (hval 4 3 v4 rfl rfl) h4
  refine (law_calls valid T_hyphenlaw6_MeanTimes (xs := [x0, x1, .int .i64 n2, .int .i64 n3, .int .i64 n4]) (fun a ha => ?_) (Times_eq s0 s1 n2 n3 n4) (us := #[v0, v1, v2, v3, v4]) (.cons r0 (.cons r1 (.cons r2 (.cons r3 (.cons r4 (.nil _ _))))))).mono fun e W' ⟨he, hb⟩ => ?_
  · simp only [List.mem_cons, List.not_mem_nil, or_false] at ha
    rcases ha with rfl | rfl | rfl | rfl | rfl
    · exact s0.pl'
    · exact s1.pl'
    · rfl
    · rfl
    · rfl
  · exact ⟨_, he, law_post hW' rfl (by kernel_rfl) rfl (by rw [Tryz.params5]; exact of_decide_eq_true (by kernel_rfl)) hb⟩
set_option maxRecDepth 100000 in
theorem times_lifted (os : Os) (started : os.Started) (H : Type) (enc : TypeId × Value → H) :
    ReturnsInHanded {} Tryz.checked os 5 .any (Rows.meanTimesSpec.pre6 enc Tryz.prog Tryz.f5 Rows.meanTimesRow.domain false) (Rows.meanTimesSpec.post enc Tryz.prog Tryz.f5 false true false false) := by
  refine returnsInHanded_of_change (C := Tryz.checked) ownKnob_none started (by kernel_rfl) Tryz.func5
    (ChangeSpec.witness6 (enc := enc) (C := Tryz.checked) false ⟨#[], #[.slice Option.none 0 0, .slice Option.none 0 0, .int .i64 0, .int .i64 0, .int .i64 0], []⟩ 8 (by kernel_rfl) (by kernel_rfl) (by kernel_rfl) (by kernel_rfl)) ?_
  intro W base args ds gs before hval hW _ _
  exact times_contract H enc W base args ds gs before hval hW
theorem MeanTimes_holds : Rows.MeanTimesSaid :=
  OpenClaim.holds_of_wide 5 Tryz.f5 rfl rfl rfl rfl rfl rfl rfl ⟨rfl, rfl, rfl, rfl, rfl⟩ rfl rfl rfl rfl rfl (by kernel_rfl) Tryz.func5 (by kernel_rfl)
    (of_decide_eq_true (by kernel_rfl)) (by unfold Func.isWrapper; first | (rw [if_pos (by decide +kernel)]; kernel_rfl) | (rw [if_neg (by decide +kernel)]; exact ⟨rfl, rfl⟩))
    (fun os started H enc _ => times_lifted os started H enc)
end Go.Proofs.YtcnbopgbmimkcaaGreat
#print axioms Go.Proofs.YtcnbopgbmimkcaaGreat.MeanTimes_holds
end
