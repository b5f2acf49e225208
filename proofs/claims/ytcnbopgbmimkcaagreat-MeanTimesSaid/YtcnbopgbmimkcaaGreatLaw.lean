/- Functions of the program, one by one, in the machine FM; plain laws of what they answer. -/
import Derived.Test.YtcnbopgbmimkcaaGreatWalkA
import Derived.Test.YtcnbopgbmimkcaaGreatWalkB
import Derived.Test.YtcnbopgbmimkcaaGreatKnown
set_option linter.all false
set_option linter.unusedSimpArgs false
set_option linter.unusedVariables false
set_option linter.unnecessarySimpa false
set_option linter.unusedSectionVars false
section
set_option autoImplicit false
set_option maxRecDepth 100000
set_option linter.unusedSimpArgs false
set_option linter.unusedVariables false
namespace Go.Proofs.YtcnbopgbmimkcaaGreat
open Go Go.Fm Go.Proofs
/-! What patterns match, by itself: from where to where at what cost. -/
abbrev Mat := Nat → Nat → Nat → Prop
def Pow (M : Mat) : Nat → Mat
  | 0, i, j, w => i = j ∧ w = 0
  | m + 1, i, j, w => ∃ k u v, M i k u ∧ Pow M m k j v ∧ w = u + v
def Px.mat (sc : List Int) : Px → Mat
  | .none => fun i j w => i = j ∧ w = 0
  | .set nm => fun i j w => j = i + 1 ∧ w = 0 ∧ ∃ n, sc[i]? = some n ∧ isOf nm n = true
  | .any => fun i j w => j = i + 1 ∧ w = 0 ∧ ∃ n, sc[i]? = some n
  | .cat a b => fun i j w => ∃ k u v, a.mat sc i k u ∧ b.mat sc k j v ∧ w = u + v
  | .alt a b => fun i j w => a.mat sc i j w ∨ b.mat sc i j w
  | .star a => fun i j w => ∃ m, Pow (a.mat sc) m i j w
  | .times a lo hi => fun i j w => ∃ m, lo ≤ m ∧ m ≤ hi ∧ Pow (a.mat sc) m i j w
  | .weight a x => fun i j w => ∃ u, a.mat sc i j u ∧ w = u + x
def On (M : Mat) : Prop := ∀ i j w, M i j w → i ≤ j
theorem Pow_on {M : Mat} (h : On M) : ∀ m, On (Pow M m)
  | 0, i, j, w, hp => by have := hp.1; omega
  | m + 1, i, j, w, hp => by
    obtain ⟨k, u, v, h1, h2, _⟩ := hp
    have := h _ _ _ h1
    have := Pow_on h m _ _ _ h2
    omega
theorem Px.mat_on (sc : List Int) (x : Px) : On (x.mat sc) := by
  induction x with
  | none => intro i j w h; have := h.1; omega
  | set nm => intro i j w h; have := h.1; omega
  | any => intro i j w h; have := h.1; omega
  | cat a b ha hb =>
    intro i j w h
    obtain ⟨k, u, v, h1, h2, _⟩ := h
    have := ha _ _ _ h1
    have := hb _ _ _ h2
    omega
  | alt a b ha hb =>
    intro i j w h
    rcases h with h | h
    · exact ha _ _ _ h
    · exact hb _ _ _ h
  | star a ha =>
    intro i j w h
    obtain ⟨m, h⟩ := h
    exact Pow_on ha m _ _ _ h
  | times a lo hi ha =>
    intro i j w h
    obtain ⟨m, _, _, h⟩ := h
    exact Pow_on ha m _ _ _ h
  | weight a x ha =>
    intro i j w h
    obtain ⟨u, h, _⟩ := h
    exact ha _ _ _ h
theorem Pow_add {M : Mat} : ∀ (a b : Nat) (i k j u v : Nat), Pow M a i k u → Pow M b k j v → Pow M (a + b) i j (u + v)
  | 0, b, i, k, j, u, v, h1, h2 => by
    obtain ⟨rfl, rfl⟩ := h1
    simpa using h2
  | a + 1, b, i, k, j, u, v, h1, h2 => by
    obtain ⟨l, p, q, hl, hr, rfl⟩ := h1
    rw [Nat.add_right_comm]
    exact ⟨l, p, q + v, hl, Pow_add a b _ _ _ _ _ hr h2, by omega⟩
theorem Pow_split {M : Mat} : ∀ (a b : Nat) (i j w : Nat), Pow M (a + b) i j w → ∃ k u v, Pow M a i k u ∧ Pow M b k j v ∧ w = u + v
  | 0, b, i, j, w, h => ⟨i, 0, w, ⟨rfl, rfl⟩, by simpa using h, by omega⟩
  | a + 1, b, i, j, w, h => by
    rw [Nat.add_right_comm] at h
    obtain ⟨l, p, q, hl, hr, rfl⟩ := h
    obtain ⟨k, u, v, h1, h2, rfl⟩ := Pow_split a b _ _ _ hr
    exact ⟨k, p + u, v, ⟨l, p, u, hl, h1, rfl⟩, h2, by omega⟩
theorem Pow_snoc {M : Mat} {m i k j u v : Nat} (h1 : Pow M m i k u) (h2 : M k j v) : Pow M (m + 1) i j (u + v) := by
  have := Pow_add m 1 i k j u v h1 ⟨j, v, 0, h2, ⟨rfl, rfl⟩, rfl⟩
  exact this
/-- More steps than places are none. -/
theorem Pow_cut {M : Mat} (h : On M) : ∀ (m i j w : Nat), Pow M m i j w → ∃ m' w', m' ≤ j - i ∧ w' ≤ w ∧ Pow M m' i j w'
  | 0, i, j, w, hp => ⟨0, w, by omega, Nat.le_refl _, hp⟩
  | m + 1, i, j, w, hp => by
    obtain ⟨k, u, v, h1, h2, rfl⟩ := hp
    have h3 := h _ _ _ h1
    have h4 := Pow_on h m _ _ _ h2
    obtain ⟨m', v', h5, h6, h7⟩ := Pow_cut h m _ _ _ h2
    by_cases hk : i = k
    · subst hk
      exact ⟨m', v', by omega, by omega, h7⟩
    · exact ⟨m' + 1, u + v', by omega, by omega, ⟨k, u, v', h1, h7, rfl⟩⟩

/-! Rows of costs. -/
def at' (c : List Int) (i : Nat) : Int := (c[i]?).getD INF
structure Gd (N : Nat) (c : List Int) : Prop where
  len : c.length = N
  nn : ∀ x ∈ c, 0 ≤ x
  le : ∀ x ∈ c, x ≤ INF
theorem Gd.good {N : Nat} {c : List Int} (h : Gd N c) : Good N c := ⟨h.len, h.nn⟩
theorem at_nn {N : Nat} {c : List Int} (h : Gd N c) (i : Nat) : 0 ≤ at' c i := by
  unfold at'
  cases hc : c[i]? with
  | none => exact INF_nn
  | some x => exact h.nn x (List.mem_of_getElem? hc)
theorem at_le {N : Nat} {c : List Int} (h : Gd N c) (i : Nat) : at' c i ≤ INF := by
  unfold at'
  cases hc : c[i]? with
  | none => exact Int.le_refl _
  | some x => exact h.le x (List.mem_of_getElem? hc)
theorem at_out {N : Nat} {c : List Int} (h : Gd N c) {i : Nat} (hi : N ≤ i) : at' c i = INF := by
  unfold at'
  rw [List.getElem?_eq_none (by rw [h.len]; exact hi)]
  rfl
theorem at_in {N : Nat} {c : List Int} (h : Gd N c) {i : Nat} (hi : i < N) : c[i]? = some (at' c i) := by
  have : i < c.length := by rw [h.len]; exact hi
  rw [at', List.getElem?_eq_getElem this]
  rfl
theorem ext_at {N : Nat} {c d : List Int} (hc : Gd N c) (hd : Gd N d) (h : ∀ i, i < N → at' c i = at' d i) : c = d := by
  apply List.ext_getElem?
  intro i
  by_cases hi : i < N
  · rw [at_in hc hi, at_in hd hi, h i hi]
  · rw [List.getElem?_eq_none (by rw [hc.len]; omega), List.getElem?_eq_none (by rw [hd.len]; omega)]
/-- A way with rows of costs that is what a pattern matches. -/
structure Rep (N : Nat) (M : Mat) (R : List Int → List Int) : Prop where
  gd : ∀ c, Gd N c → Gd N (R c)
  lo : ∀ c, Gd N c → ∀ i j w, j < N → M i j w → at' (R c) j ≤ at' c i + w
  att : ∀ c, Gd N c → ∀ j, j < N → at' (R c) j = INF ∨ ∃ i w, M i j w ∧ at' (R c) j = at' c i + w
/-- As good as. -/
def Sub (M M' : Mat) : Prop := ∀ i j w, M i j w → ∃ w', w' ≤ w ∧ M' i j w'
theorem Rep.le {N : Nat} {M M' : Mat} {R R' : List Int → List Int} (h : Rep N M R) (h' : Rep N M' R') (s : Sub M' M) (c : List Int) (hc : Gd N c) (j : Nat) (hj : j < N) : at' (R c) j ≤ at' (R' c) j := by
  rcases h'.att c hc j hj with e | ⟨i, w, hm, e⟩
  · rw [e]
    exact at_le (h.gd c hc) j
  · obtain ⟨w', hw, hm'⟩ := s _ _ _ hm
    have := h.lo c hc i j w' hj hm'
    omega
theorem Rep.same {N : Nat} {M M' : Mat} {R R' : List Int → List Int} (h : Rep N M R) (h' : Rep N M' R') (s : Sub M M') (s' : Sub M' M) (c : List Int) (hc : Gd N c) : R c = R' c :=
  ext_at (h.gd c hc) (h'.gd c hc) fun j hj => Int.le_antisymm (h.le h' s' c hc j hj) (h'.le h s c hc j hj)
theorem Rep.congr {N : Nat} {M M' : Mat} {R : List Int → List Int} (h : Rep N M R) (s : Sub M' M) (s' : ∀ i j w, M i j w → M' i j w) : Rep N M' R :=
  ⟨h.gd, fun c hc i j w hj hm => by
    obtain ⟨w', hw, hm'⟩ := s _ _ _ hm
    have := h.lo c hc i j w' hj hm'
    omega, fun c hc j hj => by
    rcases h.att c hc j hj with e | ⟨i, w, hm, e⟩
    · exact .inl e
    · exact .inr ⟨i, w, s' _ _ _ hm, e⟩⟩
theorem Rep.comp {N : Nat} {M M' : Mat} {R R' : List Int → List Int} (h : Rep N M R) (h' : Rep N M' R') (on : On M') : Rep N (fun i j w => ∃ k u v, M i k u ∧ M' k j v ∧ w = u + v) (fun c => R' (R c)) :=
  ⟨fun c hc => h'.gd _ (h.gd c hc), fun c hc i j w hj hm => by
    obtain ⟨k, u, v, h1, h2, rfl⟩ := hm
    have hk := on _ _ _ h2
    have a := h.lo c hc i k u (by omega) h1
    have b := h'.lo _ (h.gd c hc) k j v hj h2
    simp only [Int.natCast_add]
    omega, fun c hc j hj => by
    rcases h'.att _ (h.gd c hc) j hj with e | ⟨k, v, h2, e⟩
    · exact .inl e
    · have hk := on _ _ _ h2
      rcases h.att c hc k (by omega) with e' | ⟨i, u, h1, e'⟩
      · left
        have h1 := at_le (h'.gd _ (h.gd c hc)) j
        omega
      · exact .inr ⟨i, u + v, ⟨k, u, v, h1, h2, rfl⟩, by rw [e, e']; simp only [Int.natCast_add]; omega⟩⟩
theorem at_map {N : Nat} {c : List Int} (h : Gd N c) (f : Int → Int) {j : Nat} (hj : j < N) : at' (c.map f) j = f (at' c j) := by
  have := at_in h hj
  rw [at', List.getElem?_map, this]
  rfl
theorem addI_le (a b : Int) : addI a b ≤ INF := by unfold addI; omega
theorem map_gd {N : Nat} {c : List Int} (h : Gd N c) {w : Int} (hw : 0 ≤ w) : Gd N (c.map fun x => addI x w) := ⟨by simp [h.len], (map_good h.good hw).nn, fun x hx => by
  obtain ⟨y, _, rfl⟩ := List.mem_map.1 hx
  exact addI_le _ _⟩
theorem Rep.dear {N : Nat} {w0 : Int} (hw : 0 ≤ w0) {M : Mat} (h1 : ∀ i j w, M i j w → i = j ∧ w0 ≤ w) (h2 : INF ≤ w0 ∨ ∀ i, ∃ w : Nat, (w : Int) = w0 ∧ M i i w) : Rep N M (fun c => c.map fun x => addI x w0) :=
  ⟨fun c hc => map_gd hc hw, fun c hc i j w hj hm => by
    obtain ⟨rfl, hle⟩ := h1 _ _ _ hm
    rw [at_map hc _ hj]
    have := at_nn hc i
    unfold addI
    omega, fun c hc j hj => by
    rw [at_map hc _ hj]
    have h3 := at_nn hc j
    have h4 := at_le hc j
    rcases h2 with h2 | h2
    · left; unfold addI; omega
    · obtain ⟨w, rfl, hm⟩ := h2 j
      by_cases hb : INF ≤ at' c j + w
      · left; unfold addI; omega
      · right; exact ⟨j, w, hm, by unfold addI; omega⟩⟩
theorem Rep.none (N : Nat) : Rep N (fun i j w => i = j ∧ w = 0) (fun c => c.map fun x => addI x 0) :=
  Rep.dear (Int.le_refl _) (fun i j w h => ⟨h.1, by omega⟩) (.inr fun i => ⟨0, rfl, rfl, rfl⟩)
theorem Rep.weight {N : Nat} {M : Mat} {R : List Int → List Int} (h : Rep N M R) (x : Nat) : Rep N (fun i j w => ∃ u, M i j u ∧ w = u + x) (fun c => (R c).map fun y => addI y x) := by
  have hd : Rep N (fun i j w => i = j ∧ w = x) (fun c => c.map fun y => addI y (x : Int)) := Rep.dear (by omega) (fun i j w h => ⟨h.1, by omega⟩) (.inr fun i => ⟨x, rfl, rfl, rfl⟩)
  refine (h.comp hd fun i j w h => by have := h.1; omega).congr (fun i j w h => ?_) (fun i j w h => ?_)
  · obtain ⟨u, h, rfl⟩ := h
    exact ⟨u + x, Nat.le_refl _, j, u, x, h, ⟨rfl, rfl⟩, rfl⟩
  · obtain ⟨k, u, v, h, ⟨rfl, rfl⟩, rfl⟩ := h
    exact ⟨u, h, rfl⟩
end Go.Proofs.YtcnbopgbmimkcaaGreat
end

section
set_option autoImplicit false
set_option maxRecDepth 100000
set_option linter.unusedSimpArgs false
set_option linter.unusedVariables false
namespace Go.Proofs.YtcnbopgbmimkcaaGreat
open Go Go.Fm Go.Proofs
theorem minL2_eq (a b : Int) : minL [a, b] INF = min (min INF a) b := rfl
theorem at_least {N : Nat} {a b : List Int} (ha : Gd N a) (hb : Gd N b) {j : Nat} (hj : j < N) : at' (leastF a b) j = min (at' a j) (at' b j) := by
  have h1 := at_in ha hj
  have h2 := at_in hb hj
  have h3 := at_le ha j
  unfold at' leastF
  rw [List.getElem?_zipWith, h1, h2]
  simp only [minL2_eq, Option.getD_some]
  omega
theorem least_gd {N : Nat} {a b : List Int} (ha : Gd N a) (hb : Gd N b) : Gd N (leastF a b) := by
  refine ⟨(leastF_good ha.good hb.good).len, (leastF_good ha.good hb.good).nn, fun x hx => ?_⟩
  obtain ⟨i, hi⟩ := List.mem_iff_getElem?.1 hx
  unfold leastF at hi
  rw [List.getElem?_zipWith] at hi
  split at hi
  · cases hi
    rw [minL2_eq]
    omega
  · cases hi
theorem Rep.alt {N : Nat} {M M' : Mat} {R R' : List Int → List Int} (h : Rep N M R) (h' : Rep N M' R') : Rep N (fun i j w => M i j w ∨ M' i j w) (fun c => leastF (R c) (R' c)) :=
  ⟨fun c hc => least_gd (h.gd c hc) (h'.gd c hc), fun c hc i j w hj hm => by
    rw [at_least (h.gd c hc) (h'.gd c hc) hj]
    rcases hm with hm | hm
    · have := h.lo c hc i j w hj hm
      omega
    · have := h'.lo c hc i j w hj hm
      omega, fun c hc j hj => by
    rw [at_least (h.gd c hc) (h'.gd c hc) hj]
    have l1 := at_le (h.gd c hc) j
    have l2 := at_le (h'.gd c hc) j
    by_cases hle : at' (R c) j ≤ at' (R' c) j
    · rw [Int.min_eq_left hle]
      rcases h.att c hc j hj with e | ⟨i, w, hm, e⟩
      · exact .inl e
      · exact .inr ⟨i, w, .inl hm, e⟩
    · rw [Int.min_eq_right (by omega)]
      rcases h'.att c hc j hj with e | ⟨i, w, hm, e⟩
      · exact .inl e
      · exact .inr ⟨i, w, .inr hm, e⟩⟩
/-! One scalar. -/
theorem onL_get (f : Int → Bool) : ∀ (sc c : List Int), c.length = sc.length + 1 → ∀ i : Nat, (onL f sc c)[i]? = (sc[i]?).bind fun n => (c[i]?).map fun x => if x < INF ∧ f n = true then x else INF
  | [], c, h, i => by cases c <;> simp [onL]
  | n :: ns, [], h, i => by simp at h
  | n :: ns, x :: xs, h, 0 => by simp [onL]
  | n :: ns, x :: xs, h, i + 1 => by
    have := onL_get f ns xs (by simpa using h) i
    simpa [onL] using this
theorem Rep.on (f : Int → Bool) (sc : List Int) : Rep (sc.length + 1) (fun i j w => j = i + 1 ∧ w = 0 ∧ ∃ n, sc[i]? = some n ∧ f n = true) (fun c => INF :: onL f sc c) := by
  have gd : ∀ c, Gd (sc.length + 1) c → Gd (sc.length + 1) (INF :: onL f sc c) := fun c hc => by
    have hg := on_good f hc.good
    refine ⟨hg.len, hg.nn, fun x hx => ?_⟩
    rcases List.mem_cons.1 hx with rfl | hx
    · exact Int.le_refl _
    · obtain ⟨i, hi⟩ := List.mem_iff_getElem?.1 hx
      rw [onL_get f sc c hc.len] at hi
      cases h1 : sc[i]? with
      | none => rw [h1] at hi; cases hi
      | some n =>
        cases h2 : c[i]? with
        | none => rw [h1, h2] at hi; cases hi
        | some y =>
          rw [h1, h2] at hi
          simp only [Option.bind_some, Option.map_some, Option.some.injEq] at hi
          subst hi
          have := hc.le y (List.mem_of_getElem? h2)
          split <;> omega
  have at0 : ∀ c, at' (INF :: onL f sc c) 0 = INF := fun c => rfl
  have atS : ∀ c, Gd (sc.length + 1) c → ∀ i n, sc[i]? = some n → at' (INF :: onL f sc c) (i + 1) = if f n = true then at' c i else INF := fun c hc i n hn => by
    have hi : i < sc.length := (List.getElem?_eq_some_iff.1 hn).1
    have h1 := at_in hc (show i < sc.length + 1 by omega)
    have h2 := at_le hc i
    rw [at', List.getElem?_cons_succ, onL_get f sc c hc.len, hn, h1]
    simp only [Option.bind_some, Option.map_some, Option.getD_some]
    by_cases hf : f n = true
    · simp only [hf, and_true, if_true]
      split <;> omega
    · simp [hf]
  refine ⟨gd, fun c hc i j w hj hm => ?_, fun c hc j hj => ?_⟩
  · obtain ⟨rfl, rfl, n, hn, hf⟩ := hm
    rw [atS c hc i n hn, if_pos hf]
    simp
  · cases j with
    | zero => exact .inl (at0 c)
    | succ i =>
      have hn : sc[i]? = some sc[i] := List.getElem?_eq_getElem (by omega)
      rw [atS c hc i _ hn]
      by_cases hf : f sc[i] = true
      · rw [if_pos hf]
        exact .inr ⟨i, 0, ⟨rfl, rfl, _, hn, hf⟩, by simp⟩
      · rw [if_neg hf]
        exact .inl rfl
/-! As often. -/
theorem often_rep {N : Nat} {M : Mat} {R : List Int → List Int} (h : Rep N M R) (on : On M) : ∀ (k : Nat) (c out : List Int), Gd N c → Gd N out →
    (∀ i j w, j < N → M i j w → min (at' out j) (at' (R c) j) ≤ at' out i + w) →
    Gd N (oftenF R k c out) ∧ (∀ j, j < N → at' (oftenF R k c out) j ≤ at' out j) ∧
      (∀ i j w m, j < N → m < k → Pow M (m + 1) i j w → at' (oftenF R k c out) j ≤ at' c i + w) ∧
      (∀ j, j < N → at' (oftenF R k c out) j = at' out j ∨ at' (oftenF R k c out) j = INF ∨ ∃ i w m, m < k ∧ Pow M (m + 1) i j w ∧ at' (oftenF R k c out) j = at' c i + w) := by
  intro k
  induction k with
  | zero =>
    intro c out hc hout inv
    refine ⟨hout, fun j hj => Int.le_refl _, fun i j w m hj hm => by omega, fun j hj => .inl rfl⟩
  | succ k ih =>
    intro c out hc hout inv
    have hR := h.gd c hc
    have hL := least_gd hout hR
    simp only [oftenF]
    by_cases hs : leastF out (R c) = out
    · rw [if_pos hs]
      have hmin : ∀ j, j < N → at' out j ≤ at' (R c) j := fun j hj => by
        have := at_least hout hR hj
        rw [hs] at this
        omega
      have hstep : ∀ i j w, j < N → M i j w → at' out j ≤ at' out i + w := fun i j w hj hm => by
        have := inv i j w hj hm
        have := hmin j hj
        omega
      have hpow : ∀ m i j w, j < N → Pow M m i j w → at' out j ≤ at' out i + w := by
        intro m
        induction m with
        | zero =>
          intro i j w hj hp
          obtain ⟨rfl, rfl⟩ := hp
          simp
        | succ m ihm =>
          intro i j w hj hp
          obtain ⟨l, u, v, h1, h2, rfl⟩ := hp
          have hl := Pow_on on m _ _ _ h2
          have a := hstep i l u (by omega) h1
          have b := ihm l j v hj h2
          simp only [Int.natCast_add]
          omega
      refine ⟨hout, fun j hj => Int.le_refl _, fun i j w m hj hm hp => ?_, fun j hj => .inl rfl⟩
      obtain ⟨l, u, v, h1, h2, rfl⟩ := hp
      have hl := Pow_on on m _ _ _ h2
      have a := h.lo c hc i l u (by omega) h1
      have b := hmin l (by omega)
      have d := hpow m l j v hj h2
      simp only [Int.natCast_add]
      omega
    · rw [if_neg hs]
      have atL : ∀ j, j < N → at' (leastF out (R c)) j = min (at' out j) (at' (R c) j) := fun j hj => at_least hout hR hj
      obtain ⟨g1, g2, g3, g4⟩ := ih (R c) (leastF out (R c)) hR hL (fun i j w hj hm => by
        have hij := on _ _ _ hm
        rw [atL j hj, atL i (by omega)]
        have a := inv i j w hj hm
        have b := h.lo (R c) hR i j w hj hm
        omega)
      refine ⟨g1, fun j hj => ?_, fun i j w m hj hm hp => ?_, fun j hj => ?_⟩
      · have := g2 j hj
        rw [atL j hj] at this
        omega
      · obtain ⟨l, u, v, h1, h2, rfl⟩ := hp
        have hl := Pow_on on m _ _ _ h2
        have a := h.lo c hc i l u (by omega) h1
        simp only [Int.natCast_add]
        cases m with
        | zero =>
          obtain ⟨rfl, rfl⟩ := h2
          have b := g2 l hj
          rw [atL l hj] at b
          simp only [Int.natCast_zero]
          omega
        | succ m =>
          have b := g3 l j v m hj (by omega) h2
          omega
      · rcases g4 j hj with e | e | ⟨i, w, m, hm, hp, e⟩
        · rw [atL j hj] at e
          by_cases hle : at' out j ≤ at' (R c) j
          · left; omega
          · right
            rcases h.att c hc j hj with e' | ⟨i, w, hm, e'⟩
            · left; omega
            · right; exact ⟨i, w, 0, by omega, ⟨j, w, 0, hm, ⟨rfl, rfl⟩, rfl⟩, by omega⟩
        · exact .inr (.inl e)
        · have hij := Pow_on on (m + 1) _ _ _ hp
          rcases h.att c hc i (by omega) with e' | ⟨i', w', hm', e'⟩
          · right; left
            have := at_le g1 j
            omega
          · right; right
            refine ⟨i', w' + w, m + 1, by omega, ⟨i, w', w, hm', hp, rfl⟩, ?_⟩
            rw [e, e']
            simp only [Int.natCast_add]
            omega
theorem Rep.often {N : Nat} {M : Mat} {R : List Int → List Int} (h : Rep N M R) (on : On M) (k : Nat) : Rep N (fun i j w => ∃ m, m ≤ k ∧ Pow M m i j w) (fun c => oftenF R k c c) := by
  have key := fun c hc => often_rep h on k c c hc hc (fun i j w hj hm => by have := h.lo c hc i j w hj hm; omega)
  refine ⟨fun c hc => (key c hc).1, fun c hc i j w hj hm => ?_, fun c hc j hj => ?_⟩
  · obtain ⟨m, hm, hp⟩ := hm
    obtain ⟨g1, g2, g3, g4⟩ := key c hc
    cases m with
    | zero =>
      obtain ⟨rfl, rfl⟩ := hp
      have := g2 i hj
      simpa using this
    | succ m => exact g3 i j w m hj (by omega) hp
  · obtain ⟨g1, g2, g3, g4⟩ := key c hc
    rcases g4 j hj with e | e | ⟨i, w, m, hm, hp, e⟩
    · exact .inr ⟨j, 0, ⟨0, by omega, rfl, rfl⟩, by simpa using e⟩
    · exact .inl e
    · exact .inr ⟨i, w, ⟨m + 1, by omega, hp⟩, e⟩
theorem timesF_succ (R : List Int → List Int) : ∀ (k : Nat) (c : List Int), timesF R (k + 1) c = timesF R k (R c)
  | k, c => by
    by_cases h : R c = c
    · have : ∀ k, timesF R k c = c := fun k => by cases k <;> simp [timesF, h]
      rw [this, h, this]
    · simp [timesF, h]
theorem Rep.pow {N : Nat} {M : Mat} {R : List Int → List Int} (h : Rep N M R) (on : On M) : ∀ k, Rep N (Pow M k) (timesF R k)
  | 0 => ⟨fun c hc => hc, fun c hc i j w hj hm => by obtain ⟨rfl, rfl⟩ := hm; simp [timesF], fun c hc j hj => .inr ⟨j, 0, ⟨rfl, rfl⟩, by simp [timesF]⟩⟩
  | k + 1 => by
    have := h.comp (Rep.pow h on k) (Pow_on on k)
    have e : timesF R (k + 1) = fun c => timesF R k (R c) := funext (timesF_succ R k)
    rw [e]
    exact this
theorem Rep.times {N : Nat} {M : Mat} {R : List Int → List Int} (h : Rep N M R) (on : On M) (lo hi : Nat) (hlh : lo ≤ hi) : Rep N (fun i j w => ∃ m, lo ≤ m ∧ m ≤ hi ∧ Pow M m i j w) (fun c => oftenF R (hi - lo) (timesF R lo c) (timesF R lo c)) := by
  refine ((h.pow on lo).comp (h.often on (hi - lo)) fun i j w hm => ?_).congr (fun i j w hm => ?_) (fun i j w hm => ?_)
  · obtain ⟨m, _, hp⟩ := hm
    exact Pow_on on m _ _ _ hp
  · obtain ⟨m, h1, h2, hp⟩ := hm
    obtain ⟨d, rfl⟩ := Nat.le.dest h1
    obtain ⟨k, u, v, a, b, rfl⟩ := Pow_split lo d i j w hp
    exact ⟨u + v, Nat.le_refl _, k, u, v, a, ⟨d, by omega, b⟩, rfl⟩
  · obtain ⟨k, u, v, a, ⟨d, hd, b⟩, rfl⟩ := hm
    exact ⟨lo + d, by omega, by omega, Pow_add lo d _ _ _ _ _ a b⟩
theorem Rep.star {n : Nat} {M : Mat} {R : List Int → List Int} (h : Rep (n + 1) M R) (on : On M) : Rep (n + 1) (fun i j w => ∃ m, Pow M m i j w) (fun c => oftenF R n c c) := by
  have hr := h.often on n
  refine ⟨hr.gd, fun c hc i j w hj hm => ?_, fun c hc j hj => ?_⟩
  · obtain ⟨m, hp⟩ := hm
    obtain ⟨m', w', h1, h2, h3⟩ := Pow_cut on m i j w hp
    have := hr.lo c hc i j w' hj ⟨m', by omega, h3⟩
    omega
  · rcases hr.att c hc j hj with e | ⟨i, w, ⟨m, _, hp⟩, e⟩
    · exact .inl e
    · exact .inr ⟨i, w, ⟨m, hp⟩, e⟩
end Go.Proofs.YtcnbopgbmimkcaaGreat
end

section
set_option autoImplicit false
set_option maxRecDepth 100000
set_option linter.unusedSimpArgs false
set_option linter.unusedVariables false
namespace Go.Proofs.YtcnbopgbmimkcaaGreat
open Go Go.Fm Go.Proofs
/-! Patterns of nothing. -/
structure Bare (M : Mat) (n : Int) : Prop where
  nn : 0 ≤ n
  lo : ∀ i j w, M i j w → i = j ∧ n ≤ w
  att : INF ≤ n ∨ ∀ i, ∃ w : Nat, (w : Int) = n ∧ M i i w
theorem sumI_le (n : Int) : ∀ (k : Nat) (acc : Int), acc ≤ INF → sumI n k acc ≤ INF
  | 0, acc, h => h
  | k + 1, acc, h => sumI_le n k _ (addI_le _ _)
theorem sumI_lo {M : Mat} {n : Int} (h : Bare M n) : ∀ (m k : Nat) (acc : Int) (i j w : Nat), k ≤ m → 0 ≤ acc → Pow M m i j w → i = j ∧ sumI (addI 0 n) k acc ≤ acc + w
  | 0, k, acc, i, j, w, hk, ha, hp => by
    have : k = 0 := by omega
    subst this
    obtain ⟨rfl, rfl⟩ := hp
    simp [sumI]
  | m + 1, k, acc, i, j, w, hk, ha, hp => by
    obtain ⟨l, u, v, h1, h2, rfl⟩ := hp
    obtain ⟨rfl, hu⟩ := h.lo _ _ _ h1
    have hn := h.nn
    cases k with
    | zero =>
      obtain ⟨e, _⟩ := sumI_lo h m 0 acc i j v (by omega) ha h2
      refine ⟨e, ?_⟩
      simp only [sumI]
      omega
    | succ k =>
      have h0 : 0 ≤ addI acc (addI 0 n) := addI_nn ha (addI_nn (by omega) hn)
      obtain ⟨e, hle⟩ := sumI_lo h m k (addI acc (addI 0 n)) i j v (by omega) h0 h2
      refine ⟨e, ?_⟩
      simp only [sumI]
      have : addI acc (addI 0 n) ≤ acc + n := by unfold addI; omega
      simp only [Int.natCast_add]
      omega
theorem sumI_att {M : Mat} {n : Int} (h : Bare M n) (i : Nat) : ∀ (k : Nat) (acc : Int), 0 ≤ acc → acc ≤ INF → INF ≤ sumI (addI 0 n) k acc ∨ ∃ w : Nat, sumI (addI 0 n) k acc = acc + w ∧ Pow M k i i w
  | 0, acc, ha, hb => .inr ⟨0, by simp [sumI], rfl, rfl⟩
  | k + 1, acc, ha, hb => by
    have hn := h.nn
    have h0 : 0 ≤ addI acc (addI 0 n) := addI_nn ha (addI_nn (by omega) hn)
    simp only [sumI]
    rcases sumI_att h i k (addI acc (addI 0 n)) h0 (addI_le _ _) with e | ⟨w, e, hp⟩
    · exact .inl e
    · by_cases hc : INF ≤ acc + n
      · left
        have : addI acc (addI 0 n) = INF := by unfold addI; omega
        omega
      · rcases h.att with hn' | hn'
        · omega
        · obtain ⟨u, hu, hm⟩ := hn' i
          right
          refine ⟨u + w, ?_, i, u, w, hm, hp, rfl⟩
          have : addI acc (addI 0 n) = acc + n := by unfold addI; omega
          rw [e, this]
          simp only [Int.natCast_add]
          omega
theorem Px.bare_rep (sc : List Int) (x : Px) : x.ok = true → x.bare = true → Bare (x.mat sc) x.noth := by
  induction x with
  | none => exact fun _ _ => ⟨by simp [Px.noth], fun i j w h => ⟨h.1, by simp [Px.noth]⟩, .inr fun i => ⟨0, by simp [Px.noth], rfl, rfl⟩⟩
  | set nm => intro _ h; cases h
  | any => intro _ h; cases h
  | cat a b ha hb =>
    intro ho h
    simp only [Px.ok, Bool.and_eq_true] at ho
    simp only [Px.bare, Bool.and_eq_true] at h
    have ha := ha ho.1 h.1
    have hb := hb ho.2 h.2
    have n1 := ha.nn
    have n0 := INF_nn
    have n2 := hb.nn
    refine ⟨Px.noth_nn _, fun i j w hm => ?_, ?_⟩
    · obtain ⟨k, u, v, h1, h2, rfl⟩ := hm
      obtain ⟨rfl, h3⟩ := ha.lo _ _ _ h1
      obtain ⟨rfl, h4⟩ := hb.lo _ _ _ h2
      refine ⟨rfl, ?_⟩
      simp only [Px.noth, addI, Int.natCast_add]
      omega
    · by_cases hc : INF ≤ a.noth + b.noth
      · left
        simp only [Px.noth, addI]
        omega
      · right
        intro i
        rcases ha.att with h1 | h1
        · omega
        rcases hb.att with h2 | h2
        · omega
        obtain ⟨u, hu, m1⟩ := h1 i
        obtain ⟨v, hv, m2⟩ := h2 i
        refine ⟨u + v, ?_, i, u, v, m1, m2, rfl⟩
        simp only [Px.noth, addI, Int.natCast_add]
        omega
  | alt a b ha hb =>
    intro ho h
    simp only [Px.ok, Bool.and_eq_true] at ho
    simp only [Px.bare, Bool.and_eq_true] at h
    have ha := ha ho.1 h.1
    have hb := hb ho.2 h.2
    have n1 := ha.nn
    have n0 := INF_nn
    have n2 := hb.nn
    have e : (Px.alt a b).noth = min (min INF a.noth) b.noth := by
      simp only [Px.noth, minL2_eq]
      omega
    refine ⟨Px.noth_nn _, fun i j w hm => ?_, ?_⟩
    · rw [e]
      rcases hm with hm | hm
      · obtain ⟨rfl, h3⟩ := ha.lo _ _ _ hm
        exact ⟨rfl, by omega⟩
      · obtain ⟨rfl, h3⟩ := hb.lo _ _ _ hm
        exact ⟨rfl, by omega⟩
    · rw [e]
      by_cases hc : INF ≤ min (min INF a.noth) b.noth
      · exact .inl hc
      · right
        intro i
        by_cases hle : a.noth ≤ b.noth
        · rcases ha.att with h1 | h1
          · omega
          obtain ⟨u, hu, m1⟩ := h1 i
          exact ⟨u, by omega, .inl m1⟩
        · rcases hb.att with h1 | h1
          · omega
          obtain ⟨u, hu, m1⟩ := h1 i
          exact ⟨u, by omega, .inr m1⟩
  | star a ha =>
    intro ho h
    have ha := ha ho h
    refine ⟨Px.noth_nn _, fun i j w hm => ?_, ?_⟩
    · obtain ⟨m, hp⟩ := hm
      exact ⟨(sumI_lo ha m 0 0 i j w (by omega) (by omega) hp).1, by simp [Px.noth]⟩
    · right
      exact fun i => ⟨0, by simp [Px.noth], 0, rfl, rfl⟩
  | times a lo hi ha =>
    intro ho h
    simp only [Px.ok, Bool.and_eq_true, decide_eq_true_eq] at ho
    have ha := ha ho.1.1 h
    have e : (Px.times a lo hi).noth = sumI (addI 0 a.noth) lo 0 := by
      simp only [Px.noth]
      rw [Nat.min_eq_left (by omega)]
    refine ⟨Px.noth_nn _, fun i j w hm => ?_, ?_⟩
    · obtain ⟨m, h1, h2, hp⟩ := hm
      obtain ⟨e1, h3⟩ := sumI_lo ha m lo 0 i j w h1 (by omega) hp
      exact ⟨e1, by rw [e]; omega⟩
    · rw [e]
      by_cases hc : INF ≤ sumI (addI 0 a.noth) lo 0
      · exact .inl hc
      · right
        intro i
        rcases sumI_att ha i lo 0 (by omega) INF_nn with h1 | ⟨w, h1, hp⟩
        · exact absurd h1 hc
        · exact ⟨w, by omega, lo, Nat.le_refl _, ho.1.2, hp⟩
  | weight a x ha =>
    intro ho h
    simp only [Px.ok, Bool.and_eq_true, decide_eq_true_eq] at ho
    have ha := ha ho.1 h
    have n1 := ha.nn
    have n0 := INF_nn
    refine ⟨Px.noth_nn _, fun i j w hm => ?_, ?_⟩
    · obtain ⟨u, h1, rfl⟩ := hm
      obtain ⟨rfl, h3⟩ := ha.lo _ _ _ h1
      refine ⟨rfl, ?_⟩
      simp only [Px.noth, addI, Int.natCast_add]
      omega
    · by_cases hc : INF ≤ a.noth + x
      · left
        simp only [Px.noth, addI]
        omega
      · right
        intro i
        rcases ha.att with h1 | h1
        · omega
        obtain ⟨u, hu, m1⟩ := h1 i
        refine ⟨u + x, ?_, u, m1, rfl⟩
        simp only [Px.noth, addI, Int.natCast_add]
        omega
theorem Bare.rep {M : Mat} {n : Int} (h : Bare M n) (N : Nat) : Rep N M (fun c => c.map fun x => addI x n) := Rep.dear h.nn h.lo h.att
/-- `text.run` says what a match costs at least. -/
theorem Px.rep (sc : List Int) (x : Px) : x.ok = true → Rep (sc.length + 1) (x.mat sc) (x.run sc) := by
  induction x with
  | none => exact fun _ => Rep.none _
  | set nm => exact fun _ => Rep.on _ sc
  | any =>
    intro _
    refine (Rep.on (fun _ => true) sc).congr (fun i j w h => ⟨w, Nat.le_refl _, h.1, h.2.1, ?_⟩) (fun i j w h => ⟨h.1, h.2.1, ?_⟩)
    · obtain ⟨n, hn⟩ := h.2.2
      exact ⟨n, hn, rfl⟩
    · obtain ⟨n, hn, _⟩ := h.2.2
      exact ⟨n, hn⟩
  | cat a b ha hb =>
    intro ho
    have ho' := ho
    simp only [Px.ok, Bool.and_eq_true] at ho
    by_cases hc : (Px.cat a b).bare = true
    · have e : (Px.cat a b).run sc = fun c => c.map fun x => addI x (Px.cat a b).noth := by
        funext c
        simp only [Px.run]
        rw [if_pos hc]
      rw [e]
      exact (Px.bare_rep sc _ ho' hc).rep _
    · have e : (Px.cat a b).run sc = fun c => b.run sc (a.run sc c) := by
        funext c
        simp only [Px.run]
        rw [if_neg hc]
      rw [e]
      exact (ha ho.1).comp (hb ho.2) (b.mat_on sc)
  | alt a b ha hb =>
    intro ho
    have ho' := ho
    simp only [Px.ok, Bool.and_eq_true] at ho
    by_cases hc : (Px.alt a b).bare = true
    · have e : (Px.alt a b).run sc = fun c => c.map fun x => addI x (Px.alt a b).noth := by
        funext c
        simp only [Px.run]
        rw [if_pos hc]
      rw [e]
      exact (Px.bare_rep sc _ ho' hc).rep _
    · have e : (Px.alt a b).run sc = fun c => leastF (a.run sc c) (b.run sc c) := by
        funext c
        simp only [Px.run]
        rw [if_neg hc]
      rw [e]
      exact (ha ho.1).alt (hb ho.2)
  | star a ha =>
    intro ho
    by_cases hc : (Px.star a).bare = true
    · have e : (Px.star a).run sc = fun c => c.map fun x => addI x (Px.star a).noth := by
        funext c
        simp only [Px.run]
        rw [if_pos hc]
      rw [e]
      exact (Px.bare_rep sc _ ho hc).rep _
    · have e : (Px.star a).run sc = fun c => oftenF (a.run sc) sc.length c c := by
        funext c
        simp only [Px.run]
        rw [if_neg hc]
      rw [e]
      exact (ha ho).star (a.mat_on sc)
  | times a lo hi ha =>
    intro ho
    have ho' := ho
    simp only [Px.ok, Bool.and_eq_true, decide_eq_true_eq] at ho
    by_cases hc : (Px.times a lo hi).bare = true
    · have e : (Px.times a lo hi).run sc = fun c => c.map fun x => addI x (Px.times a lo hi).noth := by
        funext c
        simp only [Px.run]
        rw [if_pos hc]
      rw [e]
      exact (Px.bare_rep sc _ ho' hc).rep _
    · have e : (Px.times a lo hi).run sc = fun c => oftenF (a.run sc) (hi - lo) (timesF (a.run sc) lo c) (timesF (a.run sc) lo c) := by
        funext c
        simp only [Px.run]
        rw [if_neg hc]
      rw [e]
      exact (ha ho.1.1).times (a.mat_on sc) lo hi ho.1.2
  | weight a x ha =>
    intro ho
    have ho' := ho
    simp only [Px.ok, Bool.and_eq_true, decide_eq_true_eq] at ho
    by_cases hc : (Px.weight a x).bare = true
    · have e : (Px.weight a x).run sc = fun c => c.map fun y => addI y (Px.weight a x).noth := by
        funext c
        simp only [Px.run]
        rw [if_pos hc]
      rw [e]
      exact (Px.bare_rep sc _ ho' hc).rep _
    · have e : (Px.weight a x).run sc = fun c => (a.run sc c).map fun y => addI y x := by
        funext c
        simp only [Px.run]
        rw [if_neg hc]
      rw [e]
      exact (ha ho.1).weight x
end Go.Proofs.YtcnbopgbmimkcaaGreat
end

section
set_option autoImplicit false
set_option maxRecDepth 100000
set_option linter.unusedSimpArgs false
set_option linter.unusedVariables false
namespace Go.Proofs.YtcnbopgbmimkcaaGreat
open Go Go.Fm Go.Proofs
theorem unit_gd (n k : Nat) : Gd n (unitI n k) := ⟨(unit_good n k).len, (unit_good n k).nn, fun x hx => by
  rcases List.mem_or_eq_of_mem_set hx with h | h
  · rw [(List.mem_replicate.1 h).2]; exact Int.le_refl _
  · rw [h]; exact INF_nn⟩
theorem zeros_gd (n : Nat) : Gd n (zerosI n) := ⟨(zeros_good n).len, (zeros_good n).nn, fun x hx => by
  simp [zerosI] at hx
  rw [hx.2]; exact INF_nn⟩
theorem at_unit {n k : Nat} (hk : k < n) (i : Nat) : at' (unitI n k) i = if i = k then 0 else INF := by
  unfold at' unitI
  rw [List.getElem?_set]
  by_cases h : k = i
  · subst h
    simp [hk]
  · rw [if_neg h, if_neg (fun e => h e.symm), List.getElem?_replicate]
    split <;> rfl
theorem at_zeros {n i : Nat} (hi : i < n) : at' (zerosI n) i = 0 := by
  unfold at' zerosI
  rw [List.getElem?_replicate, if_pos hi]
  rfl
theorem mem_endsL : ∀ (c : List Int) (i : Nat) (z : Int), z ∈ endsL c i ↔ ∃ j : Nat, z = (i + j : Nat) ∧ ∃ x, c[j]? = some x ∧ x < INF
  | [], i, z => by simp [endsL]
  | x :: c, i, z => by
    have ih := mem_endsL c (i + 1) z
    unfold endsL
    constructor
    · intro h
      split at h
      · rcases List.mem_cons.1 h with h | h
        · exact ⟨0, by simpa using h, x, rfl, ‹_›⟩
        · obtain ⟨j, e, y, hy, hl⟩ := ih.1 h
          exact ⟨j + 1, by rw [e]; congr 1; omega, y, by simpa using hy, hl⟩
      · obtain ⟨j, e, y, hy, hl⟩ := ih.1 h
        exact ⟨j + 1, by rw [e]; congr 1; omega, y, by simpa using hy, hl⟩
    · rintro ⟨j, e, y, hy, hl⟩
      cases j with
      | zero =>
        simp at hy
        subst hy
        rw [if_pos hl]
        exact List.mem_cons.2 (.inl (by simpa using e))
      | succ j =>
        have : z ∈ endsL c (i + 1) := ih.2 ⟨j, by rw [e]; congr 1; omega, y, by simpa using hy, hl⟩
        split
        · exact List.mem_cons_of_mem _ this
        · exact this
/-! Stars. -/
theorem Pow_of {M : Mat} : ∀ (m : Nat) (i j w : Nat), Pow (fun i j w => ∃ m, Pow M m i j w) m i j w → ∃ m, Pow M m i j w
  | 0, i, j, w, h => ⟨0, h⟩
  | m + 1, i, j, w, h => by
    obtain ⟨k, u, v, ⟨a, ha⟩, h2, rfl⟩ := h
    obtain ⟨b, hb⟩ := Pow_of m _ _ _ h2
    exact ⟨a + b, Pow_add a b _ _ _ _ _ ha hb⟩
theorem star_star (sc : List Int) (x : Px) (hx : x.ok = true) (c : List Int) (hc : Gd (sc.length + 1) c) : (Px.star (.star x)).run sc c = (Px.star x).run sc c := by
  refine Rep.same ((Px.star (.star x)).rep sc hx) ((Px.star x).rep sc hx) (fun i j w h => ?_) (fun i j w h => ?_) c hc
  · obtain ⟨m, h⟩ := h
    exact ⟨w, Nat.le_refl _, Pow_of m _ _ _ h⟩
  · exact ⟨w, Nat.le_refl _, 1, j, w, 0, h, ⟨rfl, rfl⟩, rfl⟩
theorem star_cat (sc : List Int) (x : Px) (hx : x.ok = true) (c : List Int) (hc : Gd (sc.length + 1) c) : (Px.cat (.star x) (.star x)).run sc c = (Px.star x).run sc c := by
  refine Rep.same ((Px.cat (.star x) (.star x)).rep sc (by simp [Px.ok, hx])) ((Px.star x).rep sc hx) (fun i j w h => ?_) (fun i j w h => ?_) c hc
  · obtain ⟨k, u, v, ⟨a, ha⟩, ⟨b, hb⟩, rfl⟩ := h
    exact ⟨u + v, Nat.le_refl _, a + b, Pow_add a b _ _ _ _ _ ha hb⟩
  · exact ⟨w, Nat.le_refl _, j, w, 0, h, ⟨0, rfl, rfl⟩, rfl⟩
theorem star_here (sc : List Int) (x : Px) (hx : x.ok = true) (k : Nat) (hk : k ≤ sc.length) : (k : Int) ∈ endsL ((Px.star x).run sc (unitI (sc.length + 1) k)) 0 := by
  have hr := (Px.star x).rep sc hx
  have hu := unit_gd (sc.length + 1) k
  have h1 := hr.lo _ hu k k 0 (by omega) ⟨0, rfl, rfl⟩
  rw [at_unit (by omega), if_pos rfl] at h1
  refine (mem_endsL _ _ _).2 ⟨k, by simp, _, at_in (hr.gd _ hu) (by omega), ?_⟩
  unfold INF
  simp only [Int.natCast_zero] at h1
  omega
/-- Is one there? -/
theorem is_loop (K : List It) (l : List Int) (k : Int) {v : V} (hv : Slc v l) (hl : l.length < 1000000) (r : Option Res)
    (hr : ∀ (env : Tr V) (L : Heap) (nx : Nat), True) : True := trivial
end Go.Proofs.YtcnbopgbmimkcaaGreat
end

section
set_option autoImplicit false
set_option maxRecDepth 100000
set_option linter.unusedSimpArgs false
set_option linter.unusedVariables false
namespace Go.Proofs.YtcnbopgbmimkcaaGreat
open Go Go.Fm Go.Proofs
/-! Handing over what leads to rows. -/
def drU (g : HeapF) (fl : Fl) (d : Nat) (v : V) (len : Nat) : Option Thing → Option V
  | some (.row sz wr true es) => if len = es.length then some (.arr (if wr = true then fl else .fresh) sz es) else dr g fl (d + 1) v
  | some (.row sz wr false es) => if len = es.length then (mapO (mapO (dr g fl d)) es).map fun es2 => .arr (if wr = true then fl else .fresh) sz es2 else dr g fl (d + 1) v
  | _ => dr g fl (d + 1) v
theorem dr_slU (g : HeapF) (fl : Fl) (d id sz len : Nat) : dr g fl (d + 1) (.sl id sz 0 len) = drU g fl d (.sl id sz 0 len) len (g id) := by
  have e : dr g fl (d + 1) (.sl id sz 0 len) = (match g id with | some (.row sz wr cl es') => if 0 + len ≤ es'.length then (if cl then some ((es'.drop 0).take len) else mapO (mapO (dr g fl d)) ((es'.drop 0).take len)).map fun es2 => V.arr (if wr then fl else .fresh) sz es2 else none | _ => none) := rfl
  cases hg : g id with
  | none => rfl
  | some t =>
    cases t with
    | box cs => rfl
    | map w es => rfl
    | row sz' wr cl es =>
      rw [hg] at e
      cases cl with
      | true =>
        simp only [drU]
        split
        · rename_i hl
          rw [e]
          simp [hl]
        · rfl
      | false =>
        simp only [drU]
        split
        · rename_i hl
          rw [e]
          simp [hl]
        · rfl
theorem drU_clean {g : HeapF} {fl : Fl} {d : Nat} {v : V} {len sz : Nat} {wr : Bool} {es : List (List V)} (h : len = es.length) : drU g fl d v len (some (.row sz wr true es)) = some (.arr (if wr = true then fl else .fresh) sz es) := by simp [drU, h]
theorem drU_unclean {g : HeapF} {fl : Fl} {d : Nat} {v : V} {len sz : Nat} {wr : Bool} {es : List (List V)} (h : len = es.length) : drU g fl d v len (some (.row sz wr false es)) = (mapO (mapO (dr g fl d)) es).map fun es2 => .arr (if wr = true then fl else .fresh) sz es2 := by simp [drU, h]
def refsU (g : HeapF) (d id : Nat) : Option Thing → List Nat
  | some (.row _ _ false es) => id :: es.flatMap fun e => e.flatMap (refs g d)
  | _ => [id]
theorem refs_slU (g : HeapF) (d id sz off len : Nat) : refs g (d + 1) (.sl id sz off len) = refsU g d id (g id) := by
  have e : refs g (d + 1) (.sl id sz off len) = (match g id with | some (.row _ _ false es) => id :: es.flatMap (fun e => e.flatMap (refs g d)) | _ => [id]) := rfl
  rw [e]
  cases g id with
  | none => rfl
  | some t =>
    cases t with
    | box cs => rfl
    | map w es => rfl
    | row sz' wr cl es => cases cl <;> rfl
theorem refsU_clean {g : HeapF} {d id sz : Nat} {wr : Bool} {es : List (List V)} : refsU g d id (some (.row sz wr true es)) = [id] := rfl
theorem refsU_unclean {g : HeapF} {d id sz : Nat} {wr : Bool} {es : List (List V)} : refsU g d id (some (.row sz wr false es)) = id :: es.flatMap fun e => e.flatMap (refs g d) := rfl
def passAg (L : Heap) (cs : List V) : Option (List V) → Option (V × List Nat × List Nat)
  | some cs' => some (.agg cs', cs.flatMap (refs L.get 5), cs.flatMap (refs L.get 5))
  | none => passV L true (.agg cs)
theorem passV_agg (L : Heap) (cs : List V) : passV L true (.agg cs) = passAg L cs (mapO (dr L.get .fresh 5) cs) := by
  cases h : mapO (dr L.get .fresh 5) cs with
  | none => rfl
  | some cs' =>
    have hd : dr L.get .fresh deep (.agg cs) = some (.agg cs') := by
      show (mapO (dr L.get .fresh 5) cs).map V.agg = _
      rw [h]
      rfl
    simp only [passV, if_true, hd, passAg]
    rfl
theorem passAg_some (L : Heap) (cs cs' : List V) : passAg L cs (some cs') = some (.agg cs', cs.flatMap (refs L.get 5), cs.flatMap (refs L.get 5)) := rfl
theorem refs_int' (g : HeapF) (d : Nat) (k : IntKind) (n : Int) : refs g (d + 1) (.int k n) = [] := rfl
theorem refs_str' (g : HeapF) (d : Nat) (s : List UInt8) : refs g (d + 1) (.str s) = [] := rfl
theorem mapO_nil' {α β : Type} (f : α → Option β) : mapO f [] = some [] := rfl
theorem mapO_cons' {α β : Type} (f : α → Option β) (x : α) (xs : List α) : mapO f (x :: xs) = (f x).bind fun y => (mapO f xs).bind fun ys => some (y :: ys) := rfl
theorem dr_px (g : HeapF) (fl : Fl) (d : Nat) (x : Px) : mapO (dr g fl (d + 1)) x.cells = some x.cells := dr_cells x.cells_plain
theorem refs_px (g : HeapF) (d : Nat) (x : Px) : x.cells.flatMap (refs g (d + 1)) = [] := refs_cells x.cells_plain
theorem thaw1_plain {c : V} (hc : plain1 c = true) (n : Nat) : thaw1 c n = (c, []) := by
  cases c <;> try rfl
  · rename_i f _ _; cases f <;> first | rfl | (simp [plain1] at hc)
  · rename_i f _; cases f <;> first | rfl | (simp [plain1] at hc)
theorem thawL_plain : ∀ {cs : List V}, cs.all plain1 = true → ∀ n, thawL cs n = (cs, [])
  | [], _, n => rfl
  | c :: cs, h, n => by
    simp only [List.all_cons, Bool.and_eq_true] at h
    simp [thawL, thaw1_plain h.1, thawL_plain h.2]
theorem finQ_tup2 {L : Heap} {nx : Nat} (a b : List V) (ha : noOldL a = true) (hb : noOldL b = true) (pa : a.all plain1 = true) (pb : b.all plain1 = true) : finQ L nx (some (.tup [.agg a, .agg b], [])) = some (.tup [.agg a, .agg b], L, nx, []) := by
  rw [finQ_nil]
  simp [finC, noOld, noOldL, ha, hb, thaw, thawVs, thawV, thawL_plain pa, thawL_plain pb, putAll]
theorem finQ_pl {L : Heap} {nx : Nat} (v : V) (h1 : noOld v = true) (h2 : plain v = true) : finQ L nx (some (v, [])) = some (v, L, nx, []) := by rw [finQ_nil]; exact finC_plain _ h1 h2
end Go.Proofs.YtcnbopgbmimkcaaGreat
end
