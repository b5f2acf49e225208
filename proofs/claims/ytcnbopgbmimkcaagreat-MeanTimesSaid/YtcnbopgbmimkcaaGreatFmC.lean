/- Part of the machine FM and of the proof that what it answers the model answers. -/
import Derived.Test.YtcnbopgbmimkcaaGreatFmB
set_option linter.all false
set_option linter.unusedSimpArgs false
set_option linter.unusedVariables false
set_option linter.unnecessarySimpa false
set_option linter.unusedSectionVars false
section
/- FM: appends. -/
set_option autoImplicit false
namespace Go.Fm

section
variable {P : Program} {w : World} {c : Cx} {H : HeapF} {env : Nat → V} {a : Act} {op : Oper} {v : V}

/-- A thing that is new lies at a block that no open thing has. -/
theorem Heaps.fresh (h : Heaps w c H) {n : Nat} (hn : ¬ c.A n) {w' : World} {l : Loc} {th : Thing} (hb : 0 < l.K → l.b < w'.heap.size ∧ ¬ c.Sf l.b ∧ ¬ c.So l.b ∧ ¬ OpenB c H l.b) (hsz : w.heap.size ≤ w'.heap.size)
    (hsame : ∀ b, b < w.heap.size → (0 < l.K → b ≠ l.b) → w'.heap[b]? = w.heap[b]?) (hth : Lies w' (c.add n l) l th) (ho : th.open_ = true) : Heaps w' (c.add n l) (updH H n (some th)) := by
  have hHn : H n = none := h.num n hn
  have hk : Keep c w w' := fun b hbb => hsame b (h.old b hbb) fun hp e => by subst e; exact hbb.elim (hb hp).2.1 (hb hp).2.2.1
  have he : Ext c (c.add n l) := Cx.ext_add hn
  have hμ : ∀ i, i ≠ n → (c.add n l).μ i = c.μ i := fun i hi => by simp [Cx.add, hi]
  have hμn : (c.add n l).μ n = some l := by simp [Cx.add]
  have apart : ∀ id th' l', H id = some th' → c.μ id = some l' → 0 < l'.K → l'.b < w.heap.size ∧ (0 < l.K → l'.b ≠ l.b) := by
    intro id th' l' h1 h2 h3
    cases hop : th'.open_ with
    | true => exact ⟨(h.free id th' l' h1 h2 hop h3).2.2, fun hp e => (hb hp).2.2.2 ⟨id, th', l', h1, h2, hop, h3, e⟩⟩
    | false =>
      have hS := h.rest id th' l' h1 h2 hop h3
      exact ⟨h.old _ (.inl hS), fun hp e => (hb hp).2.1 (e ▸ hS)⟩
  constructor
  · intro id th' hi
    by_cases hid : id = n
    · subst hid
      rw [updH_same] at hi
      cases hi
      exact ⟨l, hμn, hth⟩
    · rw [updH_ne _ _ hid] at hi
      obtain ⟨l', h1, h2⟩ := h.at_ id th' hi
      refine ⟨l', by rw [hμ id hid]; exact h1, h2.ext he hk fun hp => hsame _ (apart id th' l' hi h1 hp).1 fun hp' => (apart id th' l' hi h1 hp).2 hp'⟩
  · intro id hi
    have hid : id ≠ n := fun e => hi (.inl e)
    rw [updH_ne _ _ hid]
    exact h.num id fun hA => hi (.inr hA)
  · intro id th' l' hi hm hop hp
    by_cases hid : id = n
    · subst hid
      rw [hμn] at hm
      cases hm
      exact ⟨(hb hp).2.1, (hb hp).2.2.1, (hb hp).1⟩
    · rw [updH_ne _ _ hid] at hi
      rw [hμ id hid] at hm
      obtain ⟨g1, g2, g3⟩ := h.free id th' l' hi hm hop hp
      exact ⟨g1, g2, by omega⟩
  · intro id th' l' hi hm hop hp
    by_cases hid : id = n
    · subst hid
      rw [updH_same] at hi
      cases hi
      rw [ho] at hop; cases hop
    · rw [updH_ne _ _ hid] at hi
      rw [hμ id hid] at hm
      exact h.rest id th' l' hi hm hop hp
  · intro i j th1 th2 l1 l2 hij hi hj hmi hmj ho1 ho2 hp1 hp2
    by_cases hin : i = n
    · subst hin
      rw [hμn] at hmi
      cases hmi
      have hjn : j ≠ i := fun e => hij e.symm
      rw [updH_ne _ _ hjn] at hj
      rw [hμ j hjn] at hmj
      exact fun e => (apart j th2 l2 hj hmj hp2).2 hp1 e.symm
    · rw [updH_ne _ _ hin] at hi
      rw [hμ i hin] at hmi
      by_cases hjn : j = n
      · subst hjn
        rw [hμn] at hmj
        cases hmj
        exact (apart i th1 l1 hi hmi hp1).2 hp2
      · rw [updH_ne _ _ hjn] at hj
        rw [hμ j hjn] at hmj
        exact h.apart i j th1 th2 l1 l2 hij hi hj hmi hmj ho1 ho2 hp1 hp2
  · intro b hbb
    have : b < w.heap.size := h.old b hbb
    omega

/-- A row that may be written becomes another: the same block, from a later element on. -/
theorem Heaps.move (h : Heaps w c H) {id n : Nat} (hn : ¬ c.A n) {th th' : Thing} {l l' : Loc} (hi : H id = some th) (hm : c.μ id = some l) (ho : th.open_ = true) (hb : l'.b = l.b) (hK : 0 < l'.K → 0 < l.K) {w' : World} (hsz : w'.heap.size = w.heap.size)
    (hsame : ∀ b, (0 < l'.K → b ≠ l.b) → w'.heap[b]? = w.heap[b]?) (hos : w'.os = w.os) (htape : w'.tape = w.tape) (hout : w'.output = w.output) (hth : Keep c w w' → Lies w' (c.add n l') l' th') (ho' : th'.open_ = true) :
    Step w c H w' (c.add n l') (updH (updH H id none) n (some th')) := by
  have hkill := h.kill id
  have hfree : 0 < l'.K → l.b < w.heap.size ∧ ¬ c.Sf l.b ∧ ¬ c.So l.b ∧ ¬ OpenB c (updH H id none) l.b := by
    intro hp
    obtain ⟨f1, f2, f3⟩ := h.free id th l hi hm ho (hK hp)
    refine ⟨f3, f1, f2, ?_⟩
    rintro ⟨j, th1, l1, h1, h2, h3, h4, h5⟩
    by_cases e : j = id
    · subst e; rw [updH_same] at h1; cases h1
    · rw [updH_ne _ _ e] at h1
      exact h.apart j id th1 th l1 l e h1 hi h2 hm h3 ho h4 (hK hp) h5
  have hk : Keep c w w' := fun b hbb => hsame b fun hp e => by
    subst e
    exact hbb.elim (hfree hp).2.1 (hfree hp).2.2.1
  have hidn : id ≠ n := by
    intro e
    subst e
    rw [h.num _ hn] at hi
    cases hi
  have hh := hkill.heaps.fresh (l := l') hn (w' := w') (th := th') (fun hp => by rw [hb, hsz]; exact hfree hp) (by omega) (fun b _ hne => hsame b fun hp => by rw [← hb]; exact hne hp) (hth hk) ho'
  refine ⟨hh, Cx.ext_add hn, by omega, fun b _ hno => hsame b fun hp e => hno ⟨id, th, l, hi, hm, ho, hK hp, e.symm⟩, ?_, fun b hb => .inl hb, fun b hb => hb, hos, htape, hout⟩
  rintro b ⟨j, th1, l1, h1, h2, h3, h4, rfl⟩
  by_cases e : j = n
  · subst e
    rw [add_same] at h2
    cases h2
    exact .inl ⟨id, th, l, hi, hm, ho, hK h4, hb.symm⟩
  · rw [updH_ne _ _ e] at h1
    have h2' : c.μ j = some l1 := by simpa [Cx.add, e] using h2
    by_cases e' : j = id
    · subst e'; rw [updH_same] at h1; cases h1
    · rw [updH_ne _ _ e'] at h1
      exact .inl ⟨j, th1, l1, h1, h2', h3, h4, rfl⟩

/-- A draw is taken: nothing else. -/
theorem Heaps.drew (h : Heaps w c H) : Step w c H w.drew c H := by
  refine ⟨?_, Ext.refl c, Nat.le_refl _, fun _ _ _ => rfl, fun _ h => .inl h, fun _ h => .inl h, fun _ h => h, rfl, rfl, rfl⟩
  have hk : Keep c w w.drew := fun _ _ => rfl
  exact ⟨fun id th hi => by
    obtain ⟨l, h1, h2⟩ := h.at_ id th hi
    exact ⟨l, h1, h2.ext (Ext.refl c) hk fun _ => rfl⟩, h.num, h.free, h.rest, h.apart, h.old⟩

theorem Rs.drew {xs : List V} {vs : List Value} (h : Rs w c xs vs) : Rs w.drew c xs vs := by
  have hk : Keep c w w.drew := fun _ _ => rfl
  exact Rs.ext (Ext.refl c) hk h

theorem growBy_le (n : Nat) (hn : 256 ≤ n) : ∀ (k c : Nat), c ≤ 2 * n → Builtin.growBy n k c ≤ 2 * n
  | 0, c, h => h
  | k + 1, c, h => by
    simp only [Builtin.growBy]
    split
    · exact h
    · exact growBy_le n hn k _ (by omega)
theorem nextcap_le {need cap : Nat} (h : cap < need) : Builtin.nextslicecap need cap ≤ 2 * need := by
  unfold Builtin.nextslicecap
  split
  · omega
  · split
    · omega
    · exact growBy_le need (by omega) 4 cap (by omega)

/-- What is appended is a slice, a text. -/
def Apd (d : TypeDesc) : Prop := (∃ e, d = .slice e) ∨ d = .string

section
variable {ts : Array TypeId} {t tx e ty : TypeId} {i : TypeInfo} {d : TypeDesc} (h0 : ts[0]? = some t) (h1 : ts[1]? = some tx) (ht : P.underlying t = some (.slice e)) (hd : P.underlying tx = some d) (hnd : Apd d) (hi : P.info? e = some i)
include h0 h1 ht hd hnd hi

theorem app_room {A : Option Addr} {len cap : Nat} {x : Value} {m : Nat} {news : List Value} (hl : Builtin.lenOf x = pure m) (hread : (Builtin.firstCells i.size m x).run P w = .ok news.toArray w) (hroom : len + m ≤ cap) {w' : World}
    (hw : StoredAt P w (A.map fun b => b.add (len * i.size)) news w') : (Builtin.append_ ts ty #[.slice A len cap, x]).run P w = .ok (.slice A (len + m) cap) w' := by
  cases A with
  | none =>
    rw [hw.2 rfl]
    rcases hnd with ⟨e', rfl⟩ | rfl <;> simp [Builtin.append_, h0, h1, run_underlying ht, run_underlying hd, sizeOf, typeInfo, hi, hl, hroom, hread]
  | some b =>
    have := hw.1 (b.add (len * i.size)) rfl
    rcases hnd with ⟨e', rfl⟩ | rfl <;> simp [Builtin.append_, h0, h1, run_underlying ht, run_underlying hd, sizeOf, typeInfo, hi, hl, hroom, hread, this]

theorem app_grow {A : Option Addr} {len cap : Nat} {x : Value} {m : Nat} {old news : List Value} (hl : Builtin.lenOf x = pure m) (hz : ∃ z, i.zero = some z)
    (hold : (Builtin.firstCells i.size len (.slice A len cap)).run P w.drew = .ok old.toArray w.drew) (hread : (Builtin.firstCells i.size m x).run P w.drew = .ok news.toArray w.drew)
    (hroom : cap < len + m) (hby : 0 < i.bytes) (hb : (len + m) * i.bytes ≤ room) :
    ∃ (z : Value) (k : Nat), i.zero = some z ∧ len + m ≤ k ∧ (Builtin.append_ ts ty #[.slice A len cap, x]).run P w =
      .ok (.slice (some ⟨w.heap.size, 0, none⟩) (len + m) k) (w.drew.alloc (.cells (old.toArray ++ (news.toArray ++ Builtin.zeroCells z.cells (k - (len + m)))) e)) := by
  obtain ⟨z, hz⟩ := hz
  have hn : ¬ (len + m ≤ cap) := by omega
  have hle : len + m ≤ (len + m) * i.bytes := Nat.le_mul_of_pos_right _ hby
  have h63 : ¬ (9223372036854775807 < ((len : Int) + (m : Int))) := by unfold room at hb; omega
  have h48 : ¬ (281474976710656 < Builtin.nextslicecap (len + m) cap * i.bytes) := by
    have h1 := nextcap_le hroom
    have h2 := Nat.mul_le_mul_right i.bytes h1
    rw [Nat.mul_assoc] at h2
    unfold room at hb
    omega
  have hq : (Question.appendCap (len + m) cap e).forced = false := rfl
  refine ⟨z, grownCap w (len + m) cap e, hz, grownCap_ge _ _ _ _, ?_⟩
  rcases hnd with ⟨e', rfl⟩ | rfl <;> simp [Builtin.append_, h0, h1, run_underlying ht, run_underlying hd, sizeOf, typeInfo, hi, hl, hn, h63, h48, hq, hold, hread, zeroValue, hz, newRow, grownCap]
end

theorem Froze.new {nx : Nat} {L : Heap} {ids : List Nat} {c' : Cx} {H' : HeapF} (f : Froze w c H nx L ids c' H' (freeze L ids)) {w' : World} {l : Loc} {th : Thing} (k : Step w c' H' w' (c'.add nx l) (updH H' nx (some th))) :
    Did w c H nx L w' (c'.add nx l) (updH H' nx (some th)) (nx + 1) ((freeze L ids).put nx (some th)) [] where
  step := f.step.trans k
  agree := f.agree.add _
  top i hi := by rw [updH_ne _ _ (by omega)]; exact f.top i (by omega)
  A i := by
    show (i = nx ∨ c'.A i) ↔ _
    rw [f.A]
    constructor
    · rintro (h | h)
      · exact .inr (by omega)
      · exact .inl h
    · rintro (h | h)
      · exact .inr h
      · exact .inl (by omega)
  le := by omega
  kept i th _ hi := by
    have hne : nx ≠ i := fun e => by
      have h1 := f.step.heaps
      have := freeze_kept ids L i th hi
      subst e
      rcases this with h2 | h2 <;> (have := (f.agree.lt h2).1; omega)
    rw [Tr.get_put_ne _ _ _ _ hne]
    exact freeze_kept ids L i th hi

theorem Froze.moved {nx : Nat} {L : Heap} {ids : List Nat} {c' : Cx} {H' : HeapF} (f : Froze w c H nx L ids c' H' (freeze L ids)) {w' : World} {l : Loc} {th : Thing} {id : Nat} (hid : id < nx) (k : Step w c' H' w' (c'.add nx l) (updH (updH H' id none) nx (some th))) :
    Did w c H nx L w' (c'.add nx l) (updH (updH H' id none) nx (some th)) (nx + 1) (((freeze L ids).put id none).put nx (some th)) [id] where
  step := f.step.trans k
  agree := (f.agree.put hid none).add _
  top i hi := by rw [updH_ne _ _ (by omega), updH_ne _ _ (by omega)]; exact f.top i (by omega)
  A i := by
    show (i = nx ∨ c'.A i) ↔ _
    rw [f.A]
    constructor
    · rintro (h | h)
      · exact .inr (by omega)
      · exact .inl h
    · rintro (h | h)
      · exact .inr h
      · exact .inl (by omega)
  le := by omega
  kept i th hn hi := by
    simp at hn
    have hne : nx ≠ i := fun e => by
      have := freeze_kept ids L i th hi
      subst e
      rcases this with h2 | h2 <;> (have := (f.agree.lt h2).1; omega)
    rw [Tr.get_put_ne _ _ _ _ hne, Tr.get_put_ne _ _ _ _ (fun e => hn e.symm)]
    exact freeze_kept ids L i th hi

theorem add_assoc_list {α : Type} (xs ys : List α) (zs : Array α) : (xs.toArray ++ (ys.toArray ++ zs)).toList = xs ++ (ys ++ zs.toList) := by simp

/-- A row in a new block, old elements and new ones. -/
theorem grown (h : Heaps w c H) {n : Nat} (hn : ¬ c.A n) {sz k : Nat} {es qs : List (List V)} {old news : List Value} {z : Array Value} {e : TypeId} (hzs : z.size = sz) (hk : es.length + qs.length ≤ k)
    (hs1 : ∀ (i : Nat) (e : List V), es[i]? = some e → e.length = sz) (hs2 : ∀ (i : Nat) (e : List V), qs[i]? = some e → e.length = sz) (hR1 : Rs w c.bare es.flatten old) (hR2 : Rs w c.bare qs.flatten news) (hc1 : es.flatten.all isCell = true) (hc2 : qs.flatten.all isCell = true) :
    let C := old.toArray ++ (news.toArray ++ Builtin.zeroCells z (k - (es.length + qs.length)))
    Step w c H { w with heap := w.heap.push (.cells C e) } (c.add n ⟨w.heap.size, 0, sz, k⟩) (updH H n (some (.row sz true true (es ++ qs)))) ∧
      R { w with heap := w.heap.push (.cells C e) } (c.add n ⟨w.heap.size, 0, sz, k⟩) (.sl n sz 0 (es.length + qs.length)) (.slice (some ⟨w.heap.size, 0, none⟩) (es.length + qs.length) k) := by
  intro C
  have l1 : old.length = es.length * sz := by rw [← hR1.1, flat_len es hs1]
  have l2 : news.length = qs.length * sz := by rw [← hR2.1, flat_len qs hs2]
  have hsize : C.size = k * sz := by
    simp only [C, Array.size_append, List.size_toArray, size_zeroCells, hzs, l1, l2]
    rw [← Nat.add_assoc, ← Nat.add_mul, ← Nat.add_mul]
    congr 1
    omega
  have hs : ∀ (i : Nat) (e : List V), (es ++ qs)[i]? = some e → e.length = sz := by
    intro i e hi
    rcases Nat.lt_or_ge i es.length with hlt | hge
    · rw [List.getElem?_append_left hlt] at hi; exact hs1 i e hi
    · rw [List.getElem?_append_right hge] at hi; exact hs2 _ e hi
  have hR : Rs w (if (true : Bool) = true then c.bare else c) (es ++ qs).flatten (C.toList.take ((es ++ qs).length * sz)) := by
    have : C.toList.take ((es ++ qs).length * sz) = old ++ news := by
      rw [show C.toList = old ++ (news ++ (Builtin.zeroCells z (k - (es.length + qs.length))).toList) from add_assoc_list _ _ _, ← List.append_assoc]
      rw [List.take_append_of_le_length (by simp only [List.length_append]; rw [l1, l2, ← Nat.add_mul]; exact Nat.le_refl _), List.take_of_length_le (by simp only [List.length_append]; rw [l1, l2, ← Nat.add_mul]; exact Nat.le_refl _)]
    rw [this, List.flatten_append]
    exact Rs.append hR1 hR2
  have := made_row (t := e) h hn (K := k) (by simpa using hk) (by rw [hsize]; exact Nat.le_refl _) hs hR (by rw [List.flatten_append, List.all_append, hc1, hc2]; rfl)
  simpa using this

/-- A row, from a later element on, with more behind. -/
theorem lies_moved {l : Loc} {sz off len cap n : Nat} {es qs : List (List V)} {vs : List Value} (hl : Lies w c l (.row sz true true es)) (hoff : off + len = es.length) (hcap : len + qs.length ≤ cap) (hK : off + cap = l.K)
    (hs : ∀ (i : Nat) (e : List V), qs[i]? = some e → e.length = sz) (hR : Rs w c.bare qs.flatten vs) (hx : qs.flatten.all isCell = true) {w' : World}
    (hw : (qs = [] ∧ w' = w) ∨ ∃ C t, w.heap[l.b]? = some (.cells C t (0, 0)) ∧ w' = w.setRow l.b (putL C.toList (l.o + es.length * sz) vs).toArray) (hk : Keep c w w') (hn : ¬ c.A n) :
    Lies w' (c.add n ⟨l.b, l.o + off * sz, sz, cap⟩) ⟨l.b, l.o + off * sz, sz, cap⟩ (.row sz true true (es.drop off ++ qs)) := by
  have he : Ext c.bare (c.add n ⟨l.b, l.o + off * sz, sz, cap⟩).bare := (Cx.ext_add hn).bare
  obtain ⟨h1, h2, h3, h4⟩ := hl
  have hdl : (es.drop off).length = len := by simp; omega
  have hall : ∀ (i : Nat) (e : List V), (es.drop off ++ qs)[i]? = some e → e.length = sz := by
    intro i e hi
    rcases Nat.lt_or_ge i len with hlt | hge
    · rw [List.getElem?_append_left (by omega), List.getElem?_drop] at hi; exact h3 _ e hi
    · rw [List.getElem?_append_right (by omega)] at hi; exact hs _ e hi
  refine ⟨rfl, by simp only [List.length_append, hdl]; exact hcap, hall, fun hp => ?_⟩
  simp only at hp
  have hpK : 0 < l.K := by omega
  obtain ⟨C, t, g1, g2, g3⟩ := h4 hpK
  have old : ∀ (i : Nat) (e : List V) (j : Nat) (x : V), i < len → (es.drop off)[i]? = some e → e[j]? = some x → isCell x = true ∧ (off + i) * sz + j < es.length * sz ∧ ∃ v, C[l.o + (off + i) * sz + j]? = some v ∧ R w c.bare x v := by
    intro i e j x hlt hi hj
    rw [List.getElem?_drop] at hi
    obtain ⟨k1, v, k2, k3⟩ := g3 _ e j x hi hj
    refine ⟨k1, ?_, v, k2, k3⟩
    have hjs : j < sz := by rw [← h3 _ e hi]; exact (List.getElem?_eq_some_iff.1 hj).1
    have := Nat.mul_le_mul_right sz (show off + i + 1 ≤ es.length by omega)
    rw [Nat.add_mul (off + i) 1] at this
    omega
  rcases hw with ⟨rfl, rfl⟩ | ⟨C1, t1, q1, rfl⟩
  · refine ⟨C, t, g1, by simp only; rw [Nat.add_assoc, ← Nat.add_mul, hK]; exact g2, fun i e j x hi hj => ?_⟩
    rw [List.append_nil] at hi
    have hlt : i < len := by rw [← hdl]; exact (List.getElem?_eq_some_iff.1 hi).1
    obtain ⟨k1, _, v, k2, k3⟩ := old i e j x hlt hi hj
    refine ⟨k1, v, ?_, k3.ext he hk⟩
    rw [← k2]
    congr 1
    simp only [Nat.add_mul]
    omega
  · rw [g1] at q1
    cases q1
    have hvl : vs.length = qs.length * sz := by rw [← hR.1, flat_len qs hs]
    have hfit : l.o + es.length * sz + vs.length ≤ C.size := by
      rw [hvl]
      have := Nat.mul_le_mul_right sz (show es.length + qs.length ≤ l.K by omega)
      rw [Nat.add_mul] at this
      omega
    refine ⟨_, t, setRow_heap w _ _ _ _ _ g1, by rw [put_size hfit]; simp only; rw [Nat.add_assoc, ← Nat.add_mul, hK]; exact g2, fun i e j x hi hj => ?_⟩
    rw [put_cells hfit]
    have hpos : l.o + off * sz + i * sz + j = l.o + (off + i) * sz + j := by rw [Nat.add_mul]; omega
    simp only [hpos]
    rcases Nat.lt_or_ge i len with hlt | hge
    · rw [List.getElem?_append_left (by omega)] at hi
      obtain ⟨k1, k0, v, k2, k3⟩ := old i e j x hlt hi hj
      exact ⟨k1, v, by rw [if_pos (by omega)]; exact k2, k3.ext he hk⟩
    · have hi' := hi
      rw [List.getElem?_append_right (by omega), hdl] at hi'
      have hjs : j < sz := by rw [← hs _ e hi']; exact (List.getElem?_eq_some_iff.1 hj).1
      have hf := flat_get qs hs (i - len) j e x hi' hj
      obtain ⟨u, hu, hRu⟩ := hR.get hf
      have hil : i - len < qs.length := (List.getElem?_eq_some_iff.1 hi').1
      have m1 := Nat.mul_le_mul_right sz (show i - len + 1 ≤ qs.length from hil)
      rw [Nat.add_mul] at m1
      have m2 : (off + i) * sz = es.length * sz + (i - len) * sz := by rw [← Nat.add_mul]; congr 1; omega
      refine ⟨allCell_get hx _ _ hf, u, ?_, hRu.ext he hk⟩
      rw [if_neg (by omega), if_pos (by omega), ← hu]
      congr 1
      omega

theorem append_sound {nx : Nat} {L : Heap} (h : Heaps w c H) (ha : Agree nx L H) {ts : Array TypeId} {xs : Array Operand} (hop : op.op = .call { callee := .builtin .append, args := xs, argTypes := ts }) {t tx e : TypeId} (h0 : ts[0]? = some t) (h1 : ts[1]? = some tx) (ht : P.underlying t = some (.slice e))
    {d : TypeDesc} (htx : P.underlying tx = some d) (hnd : Apd d) {i : TypeInfo} (hi : P.info? e = some i) (hby : 0 < i.bytes) {z : Value} (hz : i.zero = some z) (hzs : z.cells.size = i.size) {s x : Operand} (hxs : xs.toList = [s, x]) {s' x' : Opd} (hs : cOpd s = some s') (hx : cOpd x = some x') (hE : EnvR w c env a)
    {r : Out} (hr : append L nx i.size i.bytes (opd env s') (opd env x') = some r) (hfree : ∀ j, nx ≤ j → j < r.2.2.1 → ¬ c.A j) : Done P w c H nx L a op r := by
  have hsR := opd_sound hE hs
  have hxR := opd_sound hE hx
  have hxs' : xs = #[s, x] := by apply Array.ext'; simpa using hxs
  subst hxs'
  have he : execOp a.eval op = (do pure (Next.value (← Builtin.append_ ts op.type #[a.eval s, a.eval x]))) := by rw [call_builtin hop]; simp [builtin]
  unfold append at hr
  obtain ⟨q, hq, hr⟩ := Option.bind_eq_some_iff.1 hr
  obtain ⟨qs, ids⟩ := q
  simp only at hr
  obtain ⟨c1, H1, f⟩ := freeze_sound ids h ha
  obtain ⟨news, src⟩ := elems_src (P := P) (ha.heaps h) f.step.ext.Sf f.step.ext.So hxR hq f.opened
  have hall : news.take (qs.length * i.size) = news := List.take_of_length_le (by rw [src.len]; exact Nat.le_refl _)
  have hread : ∀ w0 : World, w0.heap = w.heap → (Builtin.firstCells i.size qs.length (a.eval x)).run P w0 = .ok news.toArray w0 := by
    intro w0 hw
    have := src.read qs.length (Nat.le_refl _) w0 hw
    rwa [hall] at this
  have fin : ∀ v' w', (Builtin.append_ ts op.type #[a.eval s, a.eval x]).run P w = .ok v' w' → (execOp a.eval op).run P w = .ok (.value v') w' := by
    intro v' w' hrun
    rw [he]
    simp [hrun]
  have nilCase : ∀ (A : Option Addr), a.eval s = .slice A 0 0 → R w c (opd env s') (.slice A 0 0) → (if qs.length * i.bytes ≤ room then (if qs.isEmpty then some (opd env s', L, nx, ([] : List Nat)) else some (.sl nx i.size 0 qs.length, (freeze L ids).put nx (some (.row i.size true true qs)), nx + 1, [])) else none) = some r → Done P w c H nx L a op r := by
    intro A hsu hsR' hr
    split at hr
    · rename_i hroom
      split at hr
      · rename_i hemp
        cases hr
        have hq0 : qs = [] := by simpa using hemp
        subst hq0
        have hn0 : news = [] := List.eq_nil_of_length_eq_zero (by rw [src.len]; simp)
        subst hn0
        refine ⟨_, .slice A 0 0, w, c, H, fin _ w ?_, .inl rfl, (Froze.nil h ha).did (fun _ _ hi => .inl hi), hsR'⟩
        have := app_room (w := w) (ty := op.type) h0 h1 ht htx hnd hi (A := A) (len := 0) (cap := 0) src.lenOf (by simpa using hread w rfl) (Nat.le_refl _) (w' := w) (by simpa using StoredAt.nil)
        rw [hsu]
        simpa using this
      · rename_i hemp
        cases hr
        have hq0 : 0 < qs.length := by
          rcases Nat.eq_zero_or_pos qs.length with h' | h'
          · exact absurd (by simp [List.eq_nil_of_length_eq_zero h']) hemp
          · exact h'
        have hold : (Builtin.firstCells i.size 0 (.slice A 0 0)).run P w.drew = .ok ([] : List Value).toArray w.drew := by
          cases A with
          | none => simp [Builtin.firstCells]
          | some b => exact run_firstCells_some (P := P) w.drew i.size 0 b 0 0 [] (by simp) (fun j u h => by simp at h)
        obtain ⟨z', k, hz', hk, hrun⟩ := app_grow (w := w) (ty := op.type) h0 h1 ht htx hnd hi (A := A) (len := 0) (cap := 0) src.lenOf ⟨z, hz⟩ hold (hread w.drew rfl) (by omega) hby (by simpa using hroom)
        rw [hz] at hz'
        cases hz'
        have hA1 : ¬ c1.A nx := by rw [f.A]; exact hfree nx (Nat.le_refl _) (by simp)
        have hd := f.step.heaps.drew
        obtain ⟨g1, g2⟩ := grown (e := e) hd.heaps hA1 (es := []) (old := []) (k := k) hzs (by simpa using hk) (fun i e h => by simp at h) src.szs (Rs.nil _ _) src.rs.drew rfl src.cell
        simp only [List.length_nil, List.nil_append] at g1 g2
        refine ⟨_, _, _, _, _, fin _ _ (by rw [hsu]; exact hrun), .inl rfl, f.new (hd.trans g1), ?_⟩
        simpa using g2
    · cases hr
  split at hr
  · rename_i hsv
    rw [hsv] at hsR
    have hsu : a.eval s = .slice none 0 0 := by
      generalize a.eval s = u at hsR
      cases hsR; rfl
    exact nilCase none hsu (by rw [hsv]; exact .nilsl) hr
  · rename_i hsv
    rw [hsv] at hsR
    obtain ⟨A, hsu⟩ : ∃ A, a.eval s = .slice A 0 0 := by
      generalize a.eval s = u at hsR
      cases hsR with
      | z A => exact ⟨A, rfl⟩
    exact nilCase A hsu (by rw [hsv]; exact .z A) hr
  · rename_i id szz off len hsv
    split at hr
    · rename_i sz' es hth
      split at hr
      · rename_i hcond
        obtain ⟨hszz, hroom, hnot⟩ := hcond
        subst hszz
        have hth1 : (freeze L ids).get id = some (.row i.size true true es) := by rw [freeze_other _ _ hnot, hth]
        obtain ⟨_, hH1⟩ := f.agree.lt hth1
        have hlt : id < nx := (ha.lt hth).1
        have hh1 := f.step.heaps
        obtain ⟨l, hm, hLies⟩ := hh1.at_ id _ hH1
        rw [hsv] at hsR
        obtain ⟨hA, A, cap, hsu, hcap, hne, hl⟩ := hsR.sl_inv
        have hm0 : c.μ id = some l := by rw [← f.μ]; exact hm
        obtain ⟨l1, l2, l3⟩ := hl l hm0
        have hLies' := hLies
        obtain ⟨hsz, hlen', hall', hrow⟩ := hLies
        have hszz : szz = i.size := by rw [← l1, hsz]
        -- what is written behind
        have behind : ∀ (n : Nat), off + len ≤ n → n + qs.length ≤ off + cap → n = off + len → ∃ w', StoredAt P w (A.map fun b => b.add (len * i.size)) news w' ∧ w'.heap.size = w.heap.size ∧ (∀ b, (0 < cap → b ≠ l.b) → w'.heap[b]? = w.heap[b]?) ∧ w'.os = w.os ∧ w'.tape = w.tape ∧ w'.output = w.output ∧
            ((qs = [] ∧ w' = w) ∨ (0 < l.K ∧ ∃ C t, w.heap[l.b]? = some (.cells C t (0, 0)) ∧ w' = w.setRow l.b (putL C.toList (l.o + n * i.size) news).toArray)) := by
          intro n _ hn hne
          subst hne
          by_cases hq0 : qs = []
          · subst hq0
            have hn0 : news = [] := List.eq_nil_of_length_eq_zero (by rw [src.len]; simp)
            subst hn0
            exact ⟨w, .nil, rfl, fun _ _ => rfl, rfl, rfl, rfl, .inl ⟨rfl, rfl⟩⟩
          · have hql : 0 < qs.length := List.length_pos_iff.2 hq0
            have hcap0 : 0 < cap := by omega
            have hK : 0 < l.K := by omega
            obtain ⟨C, ty, hC, hfit, _⟩ := hrow hK
            have hA' := l3 hcap0
            rw [hsz] at hA'
            have hfit2 : l.o + (off + len) * i.size + news.length ≤ C.size := by
              rw [src.len]
              have := Nat.mul_le_mul_right i.size (show off + len + qs.length ≤ l.K by omega)
              rw [Nat.add_mul (off + len)] at this
              omega
            have hst := stored (P := P) hC hfit2 src.one
            refine ⟨_, ?_, by simp, fun b hb => setRow_other w l.b b _ (hb hcap0), rfl, rfl, rfl, .inr ⟨hK, C, ty, hC, rfl⟩⟩
            rw [hA', Option.map_some, add_spot rfl]
            refine .some ?_
            rw [show l.o + off * i.size + len * i.size = l.o + (off + len) * i.size by rw [Nat.add_mul]; omega]
            exact hst
        split at hr
        · rename_i hend
          cases hr
          have hA1 : ¬ c1.A nx := by rw [f.A]; exact hfree nx (Nat.le_refl _) (by simp)
          by_cases hcc : len + qs.length ≤ cap
          · obtain ⟨w', b1, b2, b3, b4, b5, b6, b7⟩ := behind (off + len) (Nat.le_refl _) (by omega) rfl
            have hrun := app_room (w := w) (ty := op.type) h0 h1 ht htx hnd hi (A := A) (len := len) (cap := cap) src.lenOf (hread w rfl) hcc b1
            have hstep := hh1.move (n := nx) (l' := ⟨l.b, l.o + off * i.size, i.size, cap⟩) (th' := .row i.size true true (es.drop off ++ qs)) hA1 hH1 hm rfl rfl (fun hp => by simp only at hp; omega) b2 b3 b4 b5 b6
              (fun hk => lies_moved hLies' hend hcc (by omega) src.szs src.rs src.cell (b7.imp (fun x => x) (fun x => by obtain ⟨_, C, t, x1, x2⟩ := x; exact ⟨C, t, x1, by rw [x2, hend]⟩)) hk hA1) rfl
            refine ⟨_, _, w', _, _, fin _ w' (by rw [hsu]; exact hrun), .inl rfl, f.moved hlt hstep, .sl ⟨add_A, A, cap, rfl, hcc, fun hn0 => ?_, fun l' hl' => ?_⟩⟩
            · have : 0 < cap := by omega
              rw [l3 this]
              simp
            · rw [add_same] at hl'
              cases hl'
              refine ⟨rfl, by simp, fun hp => ?_⟩
              rw [l3 hp, hsz]
              simp
          · -- a new block
            obtain ⟨news0, src0⟩ : ∃ news0, Src P w c1 i.size (es.drop off) (.slice A len cap) news0 := by
              have hsR1 : R w c1 (.sl id szz off len) (.slice A len cap) := by
                rw [hsu] at hsR
                exact hsR.ext f.step.ext (Keep.refl _ _)
              obtain ⟨lx, Ax, capx, hmx, hux, _, _, _, _, hAx, _, hcellx⟩ := row_cells hh1 hH1 hsR1 (by omega)
              cases hux
              have htl : (es.drop off).take len = es.drop off := List.take_of_length_le (by simp; omega)
              have hdl : (es.drop off).length = len := by simp; omega
              rw [htl] at hcellx
              refine ElemsAt.src ⟨A, cap, by rw [hdl], by rw [hdl]; exact hcap, fun j e hj => by rw [List.getElem?_drop] at hj; exact hall' _ e hj, fun hne0 => ⟨⟨lx.b, lx.o + off * i.size, none⟩, hAx ?_, rfl, fun j e k x hj hk => ?_⟩⟩
              · have : 0 < (es.drop off).length := List.length_pos_iff.2 hne0
                omega
              · obtain ⟨y1, cv, y2, y3⟩ := hcellx j e k x hj hk
                exact ⟨y1, cv, y2, y3⟩
            have hdl : (es.drop off).length = len := by simp; omega
            have hold := src0.read len (by omega) w.drew rfl
            have hall0 : news0.take (len * i.size) = news0 := List.take_of_length_le (by rw [src0.len, hdl]; exact Nat.le_refl _)
            rw [hall0] at hold
            obtain ⟨z', k, hz', hk, hrun⟩ := app_grow (w := w) (ty := op.type) h0 h1 ht htx hnd hi (A := A) (len := len) (cap := cap) src.lenOf ⟨z, hz⟩ hold (hread w.drew rfl) (by omega) hby hroom
            rw [hz] at hz'
            cases hz'
            have hd := hh1.drew
            have hkl := hd.heaps.kill id
            obtain ⟨g1, g2⟩ := grown (e := e) hkl.heaps hA1 (es := es.drop off) (qs := qs) (old := news0) (news := news) (k := k) hzs (by rw [hdl]; exact hk) src0.szs src.szs src0.rs.drew src.rs.drew src0.cell src.cell
            rw [hdl] at g1 g2
            refine ⟨_, _, _, _, _, fin _ _ (by rw [hsu]; exact hrun), .inl rfl, f.moved hlt (hd.trans (hkl.trans g1)), g2⟩
        · split at hr
          · rename_i hmid
            cases hr
            have hcc : len + qs.length ≤ cap := by omega
            obtain ⟨w', b1, b2, b3, b4, b5, b6, b7⟩ := behind (off + len) (Nat.le_refl _) (by omega) rfl
            have hrun := app_room (w := w) (ty := op.type) h0 h1 ht htx hnd hi (A := A) (len := len) (cap := cap) src.lenOf (hread w rfl) hcc b1
            rw [show es.take (off + len) ++ qs ++ es.drop (off + len + qs.length) = putL es (off + len) qs by rw [putL_eq _ _ _ (by omega)]]
            have hstep : Step w c1 H1 w' c1 (updH H1 id (some (.row i.size true true (putL es (off + len) qs)))) := by
              rcases b7 with ⟨rfl, rfl⟩ | ⟨hK, C, ty, hC, rfl⟩
              · have hsame : putL es (off + len) ([] : List (List V)) = es := by rw [putL_eq _ _ _ (by simp at hmid; omega)]; simp
                rw [hsame, updH_id hH1]
                exact Step.refl hh1
              · exact hh1.setRow hH1 hm rfl hK _ (fun hk => lies_rows_put hLies' hK hC hmid src.szs src.rs src.cell hk) rfl
            have hsR1 : R w' c1 (.sl id i.size off (len + qs.length)) (.slice A (len + qs.length) cap) := by
              refine .sl ⟨f.step.ext.A _ hA, A, cap, rfl, hcc, fun hn0 => ?_, fun l' hl' => ?_⟩
              · have : 0 < cap := by omega
                rw [l3 this]
                simp
              · rw [hm] at hl'
                cases hl'
                exact ⟨hsz, l2, l3⟩
            exact ⟨_, _, w', c1, _, fin _ w' (by rw [hsu]; exact hrun), .inl rfl, f.write hlt hstep, hsR1⟩
          · cases hr
      · cases hr
    · cases hr
  · cases hr

/-- So many zeros behind nil. -/
theorem apn_sound {nx : Nat} {L : Heap} (h : Heaps w c H) (ha : Agree nx L H) {ts : Array TypeId} {xs : Array Operand} (hop : op.op = .call { callee := .builtin .append, args := xs, argTypes := ts }) {t tx e : TypeId} (h0 : ts[0]? = some t) (h1 : ts[1]? = some tx) (ht : P.underlying t = some (.slice e))
    (htx : P.underlying tx = some (.int .i64)) {i : TypeInfo} (hi : P.info? e = some i) {zr : V} (hzr : zeroV P e = some zr) (hsz0 : i.size ≠ 0) (hby : 0 < i.bytes) {z : Value} (hz : i.zero = some z) (hzs : z.cells.size = i.size) {s x : Operand} (hxs : xs.toList = [s, x]) {s' x' : Opd} (hs : cOpd s = some s') (hx : cOpd x = some x') (hE : EnvR w c env a)
    {r : Out} (hr : appZeros L nx i.size i.bytes zr.cells (opd env s') (opd env x') = some r) (hfree : ∀ j, nx ≤ j → j < r.2.2.1 → ¬ c.A j) : Done P w c H nx L a op r := by
  have hsR := opd_sound hE hs
  have hxR := opd_sound hE hx
  have hxs' : xs = #[s, x] := by apply Array.ext'; simpa using hxs
  subst hxs'
  have he : execOp a.eval op = (do pure (Next.value (← Builtin.append_ ts op.type #[a.eval s, a.eval x]))) := by rw [call_builtin hop]; simp [builtin]
  obtain ⟨i', zv, hi', hz', _, hRz, hcz, _⟩ := zero_sound (w := w) (c := c.bare) hzr
  rw [hi] at hi'
  cases hi'
  rw [hz] at hz'
  cases hz'
  unfold appZeros at hr
  split at hr
  · rename_i m hsv hxv
    rw [hsv] at hsR
    rw [hxv] at hxR
    have hsu : a.eval s = .slice none 0 0 := by
      generalize a.eval s = u at hsR
      cases hsR; rfl
    have hxu : a.eval x = .int .i64 m := hxR.int_inv
    split at hr
    · rename_i hm
      obtain ⟨hm0, hroom⟩ := hm
      obtain ⟨n, rfl⟩ : ∃ n : Nat, m = n := ⟨m.toNat, by omega⟩
      have hnr : n * i.bytes ≤ room := by exact_mod_cast hroom
      have hnb : n ≤ n * i.bytes := Nat.le_mul_of_pos_right _ hby
      have hwrap : IntKind.i64.wrap (n : Int) = n := by
        unfold room at hnr
        rw [IntKind.wrap_i64]
        omega
      have h48 : ¬ (281474976710656 < (n : Int) * (i.bytes : Int)) := by
        unfold room at hroom
        omega
      have h63 : ¬ (9223372036854775807 < (n : Int)) := by unfold room at hnr; omega
      split at hr
      · rename_i hz0
        cases hr
        have hn0 : n = 0 := by omega
        subst hn0
        refine ⟨_, .slice none 0 0, w, c, H, ?_, .inl rfl, (Froze.nil h ha).did (fun _ _ hi => .inl hi), .nilsl⟩
        rw [he, hsu, hxu]
        have hw0 : IntKind.i64.wrap 0 = 0 := by decide
        simp [Builtin.append_, h0, h1, run_underlying ht, run_underlying htx, sizeOf, typeInfo, hi, asInt, asIntOf, hw0]
      · rename_i hz0
        cases hr
        have hn0 : 0 < n := by omega
        have hncap : ¬ (281474976710656 < Builtin.nextslicecap n 0 * i.bytes) := by
          have h1 := nextcap_le (need := n) (cap := 0) hn0
          have h2 := Nat.mul_le_mul_right i.bytes h1
          rw [Nat.mul_assoc] at h2
          unfold room at hnr
          omega
        have hq : (Question.appendCap n 0 e).forced = false := rfl
        have hA1 : ¬ c.A nx := hfree nx (Nat.le_refl _) (by simp)
        have hd := h.drew
        have hlen : zr.cells.length = i.size := by
          have := hRz.1
          simp only [Array.length_toList] at this
          omega
        have hk := grownCap_ge w n 0 e
        have hnews : (Array.toList (Builtin.zeroCells z.cells n)) = ((Array.range (n * zr.cells.length)).map (z.cells[· % z.cells.size]!)).toList := by
          unfold Builtin.zeroCells
          rw [hlen, hzs]
        obtain ⟨g1, g2⟩ := grown (e := e) (z := z.cells) hd.heaps hA1 (es := []) (old := []) (k := grownCap w n 0 e) (qs := List.replicate n zr.cells) (news := (Builtin.zeroCells z.cells n).toList) hzs (by simpa using hk) (fun i e h => by simp at h) (rep_len hlen) (Rs.nil _ _)
          (by rw [hnews]; exact (zeros_flat zr.cells z.cells n hRz).drew) rfl (rep_cell hcz)
        simp only [List.length_nil, List.nil_append, Nat.zero_add, List.length_replicate] at g1 g2
        have hrun : (Builtin.append_ ts op.type #[.slice none 0 0, .int .i64 (n : Int)]).run P w = .ok (.slice (some ⟨w.heap.size, 0, none⟩) n (grownCap w n 0 e))
            (w.drew.alloc (.cells (([] : List Value).toArray ++ ((Builtin.zeroCells z.cells n).toList.toArray ++ Builtin.zeroCells z.cells (grownCap w n 0 e - n))) e)) := by
          have hne : ¬ (n * i.size = 0) := by
            intro e
            rcases Nat.mul_eq_zero.1 e with h' | h'
            · omega
            · omega
          have hneg : ¬ ((n : Int) < 0) := by omega
          have hn1 : ¬ n = 0 := by omega
          simp [Builtin.append_, Builtin.firstCells, h0, h1, run_underlying ht, run_underlying htx, sizeOf, typeInfo, hi, asInt, asIntOf, hwrap, hn1, hne, hneg, h48, h63, hncap, hq, zeroValue, hz, newRow, grownCap]
        refine ⟨.value (.slice (some ⟨w.heap.size, 0, none⟩) n (grownCap w n 0 e)), .slice (some ⟨w.heap.size, 0, none⟩) n (grownCap w n 0 e), _, _, _, ?_, .inl rfl, (Froze.nil h ha).new (ids := []) (hd.trans g1), ?_⟩
        · rw [he, hsu, hxu]
          simp only [Sem.run_bind, hrun]
          rfl
        · simpa using g2
    · cases hr
  · cases hr
end
end Go.Fm
end

section
/- FM: a map is written. -/
set_option autoImplicit false
namespace Go.Fm

theorem mapSet_get {kk : Kk} {k x : V} : ∀ {es es' : List (V × V)}, mapSet kk es k x = some es' →
    (mapGet kk es k = some none ∧ es' = es ++ [(k, x)]) ∨ ∃ i k' y, mapGet kk es k = some (some y) ∧ es[i]? = some (k', y) ∧ keq kk k k' = some true ∧ (∀ j, j < i → ∀ k'' y', es[j]? = some (k'', y') → keq kk k k'' = some false) ∧ es' = es.set i (k, x)
  | [], es', h => by
    cases h
    exact .inl ⟨rfl, rfl⟩
  | (k', y) :: es, es', h => by
    simp only [mapSet, Option.bind_eq_some_iff] at h
    obtain ⟨b, hb, h⟩ := h
    cases b with
    | true =>
      simp only [if_true, Option.some.injEq] at h
      subst h
      exact .inr ⟨0, k', y, by simp [mapGet, hb], rfl, hb, fun j hj => by omega, rfl⟩
    | false =>
      simp only [Bool.false_eq_true, if_false] at h
      obtain ⟨es1, h1, rfl⟩ := Option.map_eq_some_iff.1 h
      rcases mapSet_get h1 with ⟨g1, rfl⟩ | ⟨i, k0, y0, g1, g2, g3, g4, rfl⟩
      · exact .inl ⟨by simp [mapGet, hb, g1], rfl⟩
      · refine .inr ⟨i + 1, k0, y0, by simp [mapGet, hb, g1], by simpa using g2, g3, fun j hj k'' y' hk => ?_, rfl⟩
        cases j with
        | zero => simp at hk; rw [← hk.1]; exact hb
        | succ j => exact g4 j (by omega) k'' y' (by simpa using hk)

section
variable {P : Program} {w : World} {c : Cx} {H : HeapF} {env : Nat → V} {a : Act} {op : Oper} {v : V}

/-- A plain cell. -/
def plainC : V → Bool
  | .int _ _ | .str _ | .bool _ => true
  | _ => false
theorem ceq_plain {k : Sk} {x y : V} {b : Bool} (h : ceq k x y = some b) : plainC x = true ∧ plainC y = true := by
  cases k <;> cases x <;> cases y <;> simp only [ceq, reduceCtorEq] at h <;> exact ⟨rfl, rfl⟩
theorem ceqs_plain : ∀ {ks : List Sk} {xs ys : List V} {b : Bool}, ceqs ks xs ys = some b → (∀ x ∈ xs, plainC x = true) ∧ ∀ y ∈ ys, plainC y = true
  | [], [], [], _, _ => ⟨fun x h => by simp at h, fun x h => by simp at h⟩
  | k :: ks, x :: xs, y :: ys, b, h => by
    simp only [ceqs, Option.bind_eq_some_iff] at h
    obtain ⟨b1, h1, b2, h2, _⟩ := h
    obtain ⟨p1, p2⟩ := ceq_plain h1
    obtain ⟨q1, q2⟩ := ceqs_plain h2
    refine ⟨fun z hz => ?_, fun z hz => ?_⟩
    · rcases List.mem_cons.1 hz with rfl | hz
      · exact p1
      · exact q1 z hz
    · rcases List.mem_cons.1 hz with rfl | hz
      · exact p2
      · exact q2 z hz
  | [], [], _ :: _, _, h => by simp [ceqs] at h
  | [], _ :: _, _, _, h => by simp [ceqs] at h
  | _ :: _, [], _, _, h => by simp [ceqs] at h
  | _ :: _, _ :: _, [], _, h => by simp [ceqs] at h

theorem R.plain {c' : Cx} {x : V} {u : Value} (h : R w c x u) (hp : plainC x = true) : R w c' x u := by
  cases x <;> simp only [plainC, Bool.false_eq_true] at hp
  · rw [h.int_inv]; exact .int _ _
  · rw [h.bool_inv]; exact .bool _
  · rw [h.str_inv]; exact .str _

theorem key_bare {c' : Cx} {kk : Kk} {x : V} {u : Value} (h : R w c x u) (hk : isKey kk x = true) : R w c' x u := by
  obtain ⟨b, hb⟩ := Option.isSome_iff_exists.1 hk
  unfold keq at hb
  cases kk with
  | one k => exact h.plain (ceq_plain hb).1
  | flat ks =>
    cases x <;> simp only [reduceCtorEq] at hb
    rename_i xs
    obtain ⟨vs, rfl, hvs, hc⟩ := h.agg_inv
    have := R.agg_mk (w := w) (c := c') (cs := xs) (vs := vs.toList) ⟨hvs.1, fun j y u hy hu => (hvs.2 j y u hy hu).plain ((ceqs_plain hb).1 y (List.mem_of_getElem? hy))⟩ hc
    simpa using this

theorem same_cell {k : Sk} {x y : V} {u v : Value} (hx : R w c x u) (hy : R w c y v) (h : ceq k x y = some true) (n : Nat) : Instr.sameBits (n + 1) v u = true := by
  cases k <;> cases x <;> cases y <;> simp only [ceq, reduceCtorEq] at h
  · split at h
    · rename_i hk
      subst hk
      simp at h
      rw [hx.int_inv, hy.int_inv]
      simp [Instr.sameBits, h]
    · cases h
  · simp at h
    rw [hx.str_inv, hy.str_inv, h]
    rename_i s1 s2
    show (s2.toArray == s2.toArray) = true
    simp
  · simp at h
    rw [hx.bool_inv, hy.bool_inv, h]
    simp [Instr.sameBits]

theorem same_cells (n : Nat) : ∀ {ks : List Sk} {xs ys : List V} {us vs : List Value}, Rs w c xs us → Rs w c ys vs → ceqs ks xs ys = some true → ((vs.zip us).all fun (x, y) => Instr.sameBits (n + 1) x y) = true
  | [], [], [], [], [], _, _, _ => rfl
  | k :: ks, x :: xs, y :: ys, u :: us, v :: vs, hx, hy, h => by
    simp only [ceqs, Option.bind_eq_some_iff] at h
    obtain ⟨b1, h1, b2, h2, h3⟩ := h
    simp at h3
    obtain ⟨rfl, rfl⟩ := h3
    simp only [List.zip_cons_cons, List.all_cons, Bool.and_eq_true]
    exact ⟨same_cell hx.head hy.head h1 n, same_cells n hx.tail hy.tail h2⟩
  | [], [], [], [], _ :: _, _, hy, _ => by have := hy.1; simp at this
  | [], [], [], _ :: _, _, hx, _, _ => by have := hx.1; simp at this
  | _ :: _, _ :: _, _ :: _, [], _, hx, _, _ => by have := hx.1; simp at this
  | _ :: _, _ :: _, _ :: _, _ :: _, [], _, hy, _ => by have := hy.1; simp at this
  | [], [], _ :: _, _, _, _, _, h => by simp [ceqs] at h
  | [], _ :: _, _, _, _, _, _, h => by simp [ceqs] at h
  | _ :: _, [], _, _, _, _, _, h => by simp [ceqs] at h
  | _ :: _, _ :: _, [], _, _, _, _, h => by simp [ceqs] at h

theorem same_key {kk : Kk} {x y : V} {u v : Value} (hx : R w c x u) (hy : R w c y v) (h : keq kk x y = some true) : Instr.sameBits 10000 v u = true := by
  unfold keq at h
  cases kk with
  | one k => exact same_cell hx hy h 9999
  | flat ks =>
    cases x <;> simp only [reduceCtorEq] at h
    cases y <;> simp only [reduceCtorEq] at h
    obtain ⟨us, rfl, hus, _⟩ := hx.agg_inv
    obtain ⟨vs, rfl, hvs, _⟩ := hy.agg_inv
    obtain ⟨l1, l2⟩ := ceqs_len h
    have e1 : vs.size = us.size := by have h1 := hus.1; have h2 := hvs.1; simp at h1 h2; omega
    rw [show (10000 : Nat) = 9998 + 1 + 1 from rfl]
    simp only [Instr.sameBits, Bool.and_eq_true, beq_iff_eq]
    exact ⟨e1, same_cells 9998 hus hvs h⟩

theorem mapUp_sound {nx : Nat} {L : Heap} (h : Heaps w c H) (ha : Agree nx L H) {t kt e : TypeId} {m k x : Operand} (hop : op.op = .mapUpdate t m k x) (hu : P.underlying t = some (.map kt e)) {m' k' x' : Opd} (hm : cOpd m = some m') (hk : cOpd k = some k') (hx : cOpd x = some x')
    {kk : Kk} (hkk : keyT P kt = some kk) (hE : EnvR w c env a) {r : Out} (hr : mapUp L nx kk (opd env m') (opd env k') (opd env x') = some r) : Done P w c H nx L a op r := by
  have hmR := opd_sound hE hm
  have hkR := opd_sound hE hk
  have hxR := opd_sound hE hx
  unfold mapUp at hr
  split at hr
  · rename_i id hmv
    split at hr
    · rename_i es hth
      split at hr
      · rename_i hcond
        obtain ⟨hkey, hnot⟩ := hcond
        obtain ⟨x2, hdr, hr⟩ := Option.bind_eq_some_iff.1 hr
        obtain ⟨es', hset, rfl⟩ := Option.map_eq_some_iff.1 hr
        obtain ⟨hlt, _⟩ := ha.lt hth
        obtain ⟨c1, H1, f⟩ := freeze_sound (refs L.get deep (opd env x')) h ha
        have hth1 : (freeze L (refs L.get deep (opd env x'))).get id = some (.map true es) := by rw [freeze_other _ _ hnot, hth]
        obtain ⟨_, hH1⟩ := f.agree.lt hth1
        have h1 := f.step.heaps
        obtain ⟨l, hml, hLies⟩ := h1.at_ id _ hH1
        obtain ⟨hK, ents, clock, hC, hsz, hent⟩ := hLies
        have hm0 : c.μ id = some l := by rw [← f.μ]; exact hml
        rw [hmv] at hmR
        obtain ⟨b, hmu, hb⟩ : ∃ b, a.eval m = .map (some b) ∧ b = l.b := by
          generalize a.eval m = u at hmR
          cases hmR with
          | mp hp =>
            obtain ⟨_, b, rfl, hl⟩ := hp
            exact ⟨b, rfl, hl l hm0⟩
        subst hb
        have hEnts : Ents w c1.bare es ents.toList := ⟨by simpa using hsz, fun i k x e h1 h2 => hent i k x e h1 (by simpa using h2)⟩
        have hkR1 : R w c1 (opd env k') (a.eval k) := hkR.ext f.step.ext (Keep.refl _ _)
        have hx2 : R w c1.bare x2 (a.eval x) := dr_sound (ha.heaps h) (by simp) f.step.ext.Sf f.step.ext.So deep _ _ _ hxR hdr f.opened
        have hkb : R w c1.bare (opd env k') (a.eval k) := key_bare hkR hkey
        have hck := check_key (P := P) hkk hkR hkey false
        have hgo : (getObj l.b).run P w = .ok (.map ents clock) w := MapKept.run_getObj_map hC
        have hhs : ∀ o, (setObj l.b o).run P w = .ok () { w with heap := w.heap.setIfInBounds l.b o } := fun o => MapKept.run_setObj_map o hC
        have hbl : l.b < w.heap.size := (Array.getElem?_eq_some_iff.1 hC).1
        -- the map's new entries
        have key : ∃ ents' clock', (Instr.mapUpdate t (a.eval m) (a.eval k) (a.eval x)).run P w = .ok () { w with heap := w.heap.setIfInBounds l.b (.map ents' clock') } ∧ Ents w c1.bare es' ents'.toList := by
          rcases mapSet_get hset with ⟨g1, rfl⟩ | ⟨i, k0, y0, g1, g2, g3, g4, rfl⟩
          · obtain ⟨q, q1, q2⟩ := find_sound hkk hkR1 hEnts.up g1
            rcases q2 with ⟨_, rfl⟩ | ⟨_, _, _, _, q2, _⟩
            · refine ⟨ents.push { key := a.eval k, val := a.eval x, born := clock }, clock + 1, ?_, ?_, fun j k x e hj he => ?_⟩
              · rw [hmu]
                simp [Instr.mapUpdate, run_underlying hu, hgo, hck, q1, hhs]
              · simp [hsz]
              · rcases Nat.lt_or_ge j es.length with hjl | hjl
                · rw [List.getElem?_append_left hjl] at hj
                  rw [Array.toList_push, List.getElem?_append_left (by simp; omega)] at he
                  exact hEnts.2 j k x e hj he
                · have : j = es.length := by have := (List.getElem?_eq_some_iff.1 hj).1; simp at this; omega
                  subst this
                  rw [List.getElem?_append_right (Nat.le_refl _)] at hj
                  simp at hj
                  rw [Array.toList_push, List.getElem?_append_right (by simp; omega)] at he
                  simp [hsz] at he
                  rw [← he, ← hj.1, ← hj.2]
                  exact ⟨hkb, hx2⟩
            · cases q2
          · obtain ⟨q, q1, q2⟩ := find_sound hkk hkR1 hEnts.up g1
            rcases q2 with ⟨q2, _⟩ | ⟨i', k1, y1, e1, _, q3, q4, q5, q6, q7⟩
            · cases q2
            · have hii : i' = i := by
                rcases Nat.lt_trichotomy i' i with hlt | heq | hgt
                · have := g4 i' hlt k1 y1 q4
                  rw [q6] at this
                  cases this
                · exact heq
                · have := q7 i hgt k0 y0 g2
                  rw [g3] at this
                  cases this
              subst hii
              subst q3
              simp only [Nat.zero_add] at q1
              have hil : i' < ents.size := by have := (List.getElem?_eq_some_iff.1 q5).1; simpa using this
              have hsame : Instr.sameBits 10000 e1.key (a.eval k) = true := same_key hkR1 (hEnts.up.2 i' k1 y1 e1 q4 q5).1 q6
              have hke : ((ents[i']?).map (·.key)).getD (a.eval k) = e1.key := by
                have : ents[i']? = some e1 := by simpa using q5
                simp [this]
              refine ⟨ents.modify i' fun e => { e with key := a.eval k, val := a.eval x }, clock, ?_, ?_, fun j k3 x3 e hj he => ?_⟩
              · rw [hmu]
                simp only [Instr.mapUpdate, Sem.run_bind, run_underlying hu, Result.andThen_ok, hgo, hck, q1]
                simp only [hke, Instr.keyThatStays, hsame, if_true, Sem.run_pure, Result.andThen_ok]
                simpa using hhs _
              · simp [hsz]
              · rw [List.getElem?_set] at hj
                have he' : (ents.modify i' fun e => { e with key := a.eval k, val := a.eval x })[j]? = some e := by rw [← Array.getElem?_toList]; exact he
                rw [Array.getElem?_modify] at he'
                by_cases hji : i' = j
                · subst hji
                  have hes : i' < es.length := (List.getElem?_eq_some_iff.1 q4).1
                  rw [if_pos rfl] at he'
                  simp [hes] at hj
                  obtain ⟨e0, _, rfl⟩ := Option.map_eq_some_iff.1 he'
                  rw [← hj.1, ← hj.2]
                  exact ⟨hkb, hx2⟩
                · rw [if_neg hji] at hj
                  rw [if_neg hji] at he'
                  exact hEnts.2 j k3 x3 e hj (by simpa using he')
        obtain ⟨ents', clock', hrun, hEnts'⟩ := key
        have hsame : ∀ b, b ≠ l.b → ({ w with heap := w.heap.setIfInBounds l.b (.map ents' clock') } : World).heap[b]? = w.heap[b]? := by
          intro b hb
          simp [Array.getElem?_setIfInBounds, Ne.symm hb]
        obtain ⟨f1, f2, f3⟩ := h1.free id _ l hH1 hml rfl hK
        have hkeep : Keep c1.bare w { w with heap := w.heap.setIfInBounds l.b (.map ents' clock') } := fun b hb => hsame b fun e => by
          subst e
          exact hb.elim f1 f2
        have hstep := h1.write (w' := { w with heap := w.heap.setIfInBounds l.b (.map ents' clock') }) (th' := .map true es') hH1 hml rfl hK (by simp) hsame rfl rfl rfl
          ⟨hK, ents', clock', by simp [hbl], by have := hEnts'.1; simpa using this, fun i k x e h2 h3 => by
            obtain ⟨y1, y2⟩ := hEnts'.2 i k x e h2 (by simpa using h3)
            exact ⟨y1.ext (Ext.refl _) hkeep, y2.ext (Ext.refl _) hkeep⟩⟩ rfl
        exact ⟨.skip, .tuple #[], _, c1, _, by simp [execOp, hop, hrun], .inr ⟨rfl, rfl⟩, f.write hlt hstep, .undef⟩
      · cases hr
    · cases hr
  · cases hr
end
end Go.Fm
end

section
/- FM: what is handed over and back at a call. -/
set_option autoImplicit false
namespace Go.Fm

def boxAt : List Nat → List Thing → Nat → Option Thing
  | m :: ms, cs :: css, i => if i = m then some cs else boxAt ms css i
  | _, _, _ => none

theorem putAll_get : ∀ (ts : List Thing) (L : Heap) (nx i : Nat), (putAll L nx ts).get i = if nx ≤ i ∧ i < nx + ts.length then ts[i - nx]? else L.get i
  | [], L, nx, i => by
    rw [putAll, if_neg (by simp)]
  | t :: ts, L, nx, i => by
    rw [putAll, putAll_get ts]
    by_cases h1 : nx + 1 ≤ i ∧ i < nx + 1 + ts.length
    · rw [if_pos h1, if_pos (by simp; omega), show i - nx = (i - (nx + 1)) + 1 by omega]
      rfl
    · rw [if_neg h1, Tr.get_put]
      by_cases h2 : nx = i
      · subst h2
        rw [if_pos rfl, if_pos (by simp), Nat.sub_self]
        rfl
      · rw [if_neg h2, if_neg (by simp; omega)]

theorem putBoxes_get : ∀ (ms : List Nat) (css : List Thing) (L : Heap) (i : Nat), ms.Nodup → (putBoxes L ms css).get i = match boxAt ms css i with | some t => some t | none => L.get i
  | [], _, L, i, _ => rfl
  | m :: ms, [], L, i, _ => rfl
  | m :: ms, cs :: css, L, i, h => by
    rw [putBoxes, putBoxes_get ms css _ i (List.nodup_cons.1 h).2]
    by_cases e : i = m
    · subst e
      have hno : ∀ (ms : List Nat) (css : List Thing), ¬ i ∈ ms → boxAt ms css i = none := by
        intro ms
        induction ms with
        | nil => intro css _; rfl
        | cons m ms ih =>
          intro css hn
          cases css with
          | nil => rfl
          | cons cs css =>
            simp only [List.mem_cons, not_or] at hn
            rw [boxAt, if_neg hn.1, ih css hn.2]
      rw [hno ms css (List.nodup_cons.1 h).1]
      simp only [boxAt, if_true]
      rw [Tr.get_put_same]
    · simp only [boxAt, if_neg e]
      cases boxAt ms css i with
      | some cs => rfl
      | none => simp only; rw [Tr.get_put_ne _ _ _ _ (fun x => e x.symm)]

theorem boxAt_none : ∀ {ms : List Nat} {css : List Thing} {i : Nat}, ¬ i ∈ ms → boxAt ms css i = none
  | [], _, _, _ => rfl
  | m :: ms, [], _, _ => rfl
  | m :: ms, cs :: css, i, h => by
    simp only [List.mem_cons, not_or] at h
    rw [boxAt, if_neg h.1, boxAt_none h.2]
theorem boxAt_mem {ms : List Nat} {css : List Thing} {i : Nat} {cs : Thing} (h : boxAt ms css i = some cs) : i ∈ ms := by
  rcases Classical.em (i ∈ ms) with h1 | h1
  · exact h1
  · rw [boxAt_none h1] at h; cases h
theorem boxAt_some : ∀ {ms : List Nat} {css : List Thing} {i : Nat}, ms.length = css.length → i ∈ ms → ∃ cs, boxAt ms css i = some cs
  | [], _, _, _, h => by simp at h
  | m :: ms, [], _, hl, _ => by simp at hl
  | m :: ms, cs :: css, i, hl, h => by
    by_cases e : i = m
    · exact ⟨cs, by rw [boxAt, if_pos e]⟩
    · rw [boxAt, if_neg e]
      refine boxAt_some (by simpa using hl) ?_
      rcases List.mem_cons.1 h with h | h
      · exact absurd h e
      · exact h

theorem kill_get : ∀ (ids : List Nat) (L : Heap) (i : Nat), (kill L ids).get i = if i ∈ ids then none else L.get i
  | [], L, i => by simp [kill]
  | id :: ids, L, i => by
    have := kill_get ids (L.put id none) i
    rw [kill, List.foldl_cons, ← kill, this]
    by_cases h : i ∈ ids
    · simp [h]
    · simp only [h, if_false, List.mem_cons, or_false]
      rw [Tr.get_put]
      by_cases e : id = i
      · simp [e]
      · rw [if_neg e, if_neg (fun x => e x.symm)]

theorem mapO_congr {α β : Type} {f g : α → Option β} : ∀ {xs : List α}, (∀ x ∈ xs, f x = g x) → mapO f xs = mapO g xs
  | [], _ => rfl
  | x :: xs, h => by
    simp only [mapO]
    rw [h x (List.mem_cons_self ..), mapO_congr fun y hy => h y (List.mem_cons_of_mem _ hy)]

/-- A heap that is the same at what is read gives the same. -/
theorem dr_same {H H' : HeapF} {fl : Fl} : ∀ (d : Nat) (v : V), (∀ id ∈ refs H d v, H' id = H id) → dr H' fl d v = dr H fl d v ∧ refs H' d v = refs H d v
  | 0, v, _ => ⟨rfl, rfl⟩
  | d + 1, v, h => by
    have each : ∀ (xs : List V), (∀ id ∈ xs.flatMap (refs H d), H' id = H id) → mapO (dr H' fl d) xs = mapO (dr H fl d) xs ∧ xs.flatMap (refs H' d) = xs.flatMap (refs H d) := by
      intro xs hx
      have one : ∀ x ∈ xs, dr H' fl d x = dr H fl d x ∧ refs H' d x = refs H d x := fun x hm => dr_same d x fun id hid => hx id (List.mem_flatMap.2 ⟨x, hm, hid⟩)
      refine ⟨mapO_congr fun x hm => (one x hm).1, ?_⟩
      clear hx
      induction xs with
      | nil => rfl
      | cons x xs ih =>
        simp only [List.flatMap_cons]
        rw [(one x (List.mem_cons_self ..)).2, ih fun y hy => one y (List.mem_cons_of_mem _ hy)]
    have eachL : ∀ (es : List (List V)), (∀ id ∈ es.flatMap (fun e => e.flatMap (refs H d)), H' id = H id) → (es.flatMap fun e => e.flatMap (refs H' d)) = es.flatMap fun e => e.flatMap (refs H d) := by
      intro es hx
      induction es with
      | nil => rfl
      | cons e es ih =>
        simp only [List.flatMap_cons] at hx ⊢
        rw [(each e fun id hid => hx id (List.mem_append_left _ hid)).2, ih fun id hid => hx id (List.mem_append_right _ hid)]
    cases v <;> try exact ⟨rfl, rfl⟩
    case arr f sz es => cases f <;> exact ⟨rfl, rfl⟩
    case map f es => cases f <;> exact ⟨rfl, rfl⟩
    case sl id sz off len =>
      have hid : H' id = H id := by
        refine h id ?_
        simp only [refs]
        split <;> simp
      simp only [dr, refs, hid]
      cases hg : H id with
      | none => exact ⟨rfl, rfl⟩
      | some th =>
        cases th with
        | box cs => exact ⟨rfl, rfl⟩
        | map wr es => exact ⟨rfl, rfl⟩
        | row sz' wr cl es =>
          cases cl with
          | true => exact ⟨rfl, rfl⟩
          | false =>
            simp only [refs, hg] at h
            have hes : ∀ id ∈ es.flatMap (fun e => e.flatMap (refs H d)), H' id = H id := fun id hid => h id (List.mem_cons_of_mem _ hid)
            refine ⟨?_, by simp only [eachL es hes]⟩
            simp only [Bool.false_eq_true, if_false]
            rw [mapO_congr (f := mapO (dr H' fl d)) (g := mapO (dr H fl d)) fun e he => (each e fun id hid => hes id (List.mem_flatMap.2 ⟨e, List.mem_of_mem_drop (List.mem_of_mem_take he), hid⟩)).1]
    case pt id idx sub =>
      have hid : H' id = H id := by
        refine h id ?_
        simp only [refs]
        split <;> simp
      simp only [dr, refs, hid]
      cases hg : H id with
      | none => exact ⟨rfl, rfl⟩
      | some th =>
        cases th with
        | row sz wr cl es => exact ⟨rfl, rfl⟩
        | map wr es => exact ⟨rfl, rfl⟩
        | box cs =>
          simp only [refs, hg] at h
          have hcs : ∀ id ∈ cs.flatMap (refs H d), H' id = H id := fun id hid => h id (List.mem_cons_of_mem _ hid)
          refine ⟨?_, by simp only [(each cs hcs).2]⟩
          simp only
          rw [mapO_congr (f := dr H' fl d) (g := dr H fl d) fun x hx => (dr_same d x fun id hid => hcs id (List.mem_flatMap.2 ⟨x, List.mem_of_mem_drop hx, hid⟩)).1]
    case mp id =>
      have hid : H' id = H id := h id (by simp [refs])
      simp only [dr, refs, hid]
      exact ⟨trivial, trivial⟩
    case agg cs =>
      obtain ⟨h1, h2⟩ := each cs (by simpa only [refs] using h)
      exact ⟨by simp only [dr, h1], by simp only [refs, h2]⟩
    case tup cs =>
      obtain ⟨h1, h2⟩ := each cs (by simpa only [refs] using h)
      exact ⟨by simp only [dr, h1], by simp only [refs, h2]⟩
    case fn f a b =>
      obtain ⟨h1, h2⟩ := each a fun id hid => h id (by simp only [refs]; exact List.mem_append_left _ hid)
      obtain ⟨h3, h4⟩ := each b fun id hid => h id (by simp only [refs]; exact List.mem_append_right _ hid)
      exact ⟨by simp only [dr, h1, h3], by simp only [refs, h2, h4]⟩
end Go.Fm
end

section
/- FM: arguments are handed over. -/
set_option autoImplicit false
namespace Go.Fm

section
variable {P : Program} {w : World} {c c0 : Cx} {L : Heap} {hand rest : List Nat}

/-- Another frame's view of a frame's heap: some things are handed over, some are at rest. -/
structure View (c c0 : Cx) (L : Heap) (hand rest : List Nat) : Prop where
  Sf : ∀ b, c.Sf b → c0.Sf b
  So : ∀ b, c.So b → c0.So b
  old : ∀ id th l, L.get id = some th → ¬ id ∈ hand → c.μ id = some l → th.open_ = true → 0 < l.K → c0.So l.b
  fresh : ∀ id th l, L.get id = some th → id ∈ rest → (∀ cs, th ≠ .box cs) → c.μ id = some l → th.open_ = true → 0 < l.K → c0.Sf l.b

def lessF (H : HeapF) (hand : List Nat) : HeapF := fun i => if hand.contains i then none else H i

theorem View.dr (hV : View c c0 L hand rest) (h : Heaps w c L.get) {fl : Fl} (hf : fl ≠ .own) {v v' : V} {u : Value} (hR : R w c v u) (hd : Fm.dr L.get fl deep v = some v') (hh : ∀ id ∈ refs L.get deep v, ¬ id ∈ hand) (hr : fl = .fresh → ∀ id ∈ refs L.get deep v, id ∈ rest) :
    R w c0.bare v' u := by
  have hsame : ∀ id ∈ refs L.get deep v, lessF L.get hand id = L.get id := by
    intro id hid
    have := hh id hid
    simp [lessF, this]
  obtain ⟨e1, e2⟩ := dr_same (H := L.get) (H' := lessF L.get hand) (fl := fl) deep v hsame
  have hsub : ∀ id th, lessF L.get hand id = some th → L.get id = some th ∧ ¬ id ∈ hand := by
    intro id th hi
    unfold lessF at hi
    split at hi
    · cases hi
    · rename_i hc
      exact ⟨hi, by simpa using hc⟩
  refine dr_sound (h.sub fun id th hi => (hsub id th hi).1) hf hV.Sf hV.So deep v v' u hR (by rw [e1]; exact hd) ?_
  intro id th l h1 h2 h3 h4 h5
  obtain ⟨g1, g2⟩ := hsub id th h1
  rcases h5 with rfl | ⟨h5, h6⟩
  · exact hV.old id th l g1 g2 h2 h3 h4
  · rw [e2] at h5
    cases fl with
    | own => exact absurd rfl hf
    | old => exact hV.old id th l g1 g2 h2 h3 h4
    | fresh => exact hV.fresh id th l g1 (hr rfl id h5) h6 h2 h3 h4

theorem thaw1_arr {f : Fl} (hf : f ≠ .own) (sz : Nat) (es : List (List V)) (n : Nat) : thaw1 (.arr f sz es) n = (.arr f sz es, []) := by cases f <;> first | exact absurd rfl hf | rfl
theorem thaw1_map {f : Fl} (hf : f ≠ .own) (es : List (V × V)) (n : Nat) : thaw1 (.map f es) n = (.map f es, []) := by cases f <;> first | exact absurd rfl hf | rfl

theorem dr_notown {H : HeapF} {fl : Fl} (hf : fl ≠ .own) {d : Nat} {v v' : V} (h : dr H fl d v = some v') (n : Nat) : thaw1 v' n = (v', []) ∧ ∀ cs, v' ≠ .rw cs := by
  cases d with
  | zero => cases h
  | succ d =>
    cases v <;> simp only [dr] at h <;> try (first | (cases h; done) | (cases h; exact ⟨rfl, fun _ => V.noConfusion⟩))
    case sl id sz off len =>
      split at h
      · split at h
        · obtain ⟨es, _, rfl⟩ := Option.map_eq_some_iff.1 h
          refine ⟨thaw1_arr ?_ _ _ _, fun _ => V.noConfusion⟩
          split
          · exact hf
          · simp
        · cases h
      · cases h
    case pt id idx sub =>
      split at h
      · split at h
        · obtain ⟨_, _, rfl⟩ := Option.map_eq_some_iff.1 h
          exact ⟨rfl, fun _ => V.noConfusion⟩
        · cases h
      · cases h
    case mp id =>
      split at h
      · rename_i wr es _
        cases h
        refine ⟨thaw1_map ?_ _ _, fun _ => V.noConfusion⟩
        split
        · exact hf
        · simp
      · cases h
    case arr f sz es => cases f <;> simp only [Option.some.injEq, reduceCtorEq] at h <;> subst h <;> exact ⟨rfl, fun _ => V.noConfusion⟩
    case map f es => cases f <;> simp only [Option.some.injEq, reduceCtorEq] at h <;> subst h <;> exact ⟨rfl, fun _ => V.noConfusion⟩
    case fn f a b =>
      obtain ⟨_, _, h⟩ := Option.bind_eq_some_iff.1 h
      obtain ⟨_, _, rfl⟩ := Option.map_eq_some_iff.1 h
      exact ⟨rfl, fun _ => V.noConfusion⟩
    case agg cs =>
      obtain ⟨_, _, rfl⟩ := Option.map_eq_some_iff.1 h
      exact ⟨rfl, fun _ => V.noConfusion⟩
    case tup cs =>
      obtain ⟨_, _, rfl⟩ := Option.map_eq_some_iff.1 h
      exact ⟨rfl, fun _ => V.noConfusion⟩

/-- A thing that leads to trees alone. -/
def Thing.clean : Thing → Bool
  | .row _ _ cl _ => cl
  | .box _ => false
  | .map _ _ => true
theorem Lies.other {l : Loc} {th : Thing} (h : Lies w c l th) (hc : th.clean = true) (hS : ∀ b, c.Sf b → c0.Sf b) (hO : ∀ b, c.So b → c0.So b) : Lies w c0 l th := by
  have he : Ext c.bare c0.bare := Ext.bares hS hO
  have hk : Keep c.bare w w := fun _ _ => rfl
  cases th with
  | row sz wr cl es =>
    cases cl with
    | false => cases hc
    | true =>
      obtain ⟨h1, h2, h3, h4⟩ := h
      refine ⟨h1, h2, h3, fun hp => ?_⟩
      obtain ⟨C, t, g1, g2, g3⟩ := h4 hp
      refine ⟨C, t, g1, g2, fun i e j x hi hj => ?_⟩
      obtain ⟨k1, v, k2, k3⟩ := g3 i e j x hi hj
      exact ⟨k1, v, k2, k3.ext he hk⟩
  | box cs => cases hc
  | map wr es =>
    obtain ⟨hp, ents, clock, g1, g2, g3⟩ := h
    refine ⟨hp, ents, clock, g1, g2, fun i k x e h1 h2 => ?_⟩
    obtain ⟨k1, k2⟩ := g3 i k x e h1 h2
    exact ⟨k1.ext he hk, k2.ext he hk⟩

/-- Things handed over, one by one. -/
def Cut (th th' : Thing) : Prop := th' = th ∨ ∃ sz es k, th = .row sz true true es ∧ th' = .row sz true true (es.take k)
theorem Cut.open_ {th th' : Thing} (h : Cut th th') (ho : th.open_ = true) : th'.open_ = true := by
  rcases h with rfl | ⟨sz, es, k, rfl, rfl⟩
  · exact ho
  · rfl
theorem Cut.clean {th th' : Thing} (h : Cut th th') (ho : th.clean = true) : th'.clean = true := by
  rcases h with rfl | ⟨sz, es, k, rfl, rfl⟩
  · exact ho
  · rfl
theorem Cut.lies {w : World} {c : Cx} {l : Loc} {th th' : Thing} (h : Cut th th') (hl : Lies w c l th) : Lies w c l th' := by
  rcases h with rfl | ⟨sz, es, k, rfl, rfl⟩
  · exact hl
  · obtain ⟨h1, h2, h3, h4⟩ := hl
    have ht : ∀ (i : Nat) (e : List V), (es.take k)[i]? = some e → es[i]? = some e := fun i e hi => by
      rw [List.getElem?_take] at hi
      split at hi
      · exact hi
      · cases hi
    refine ⟨h1, by simp; omega, fun i e hi => h3 i e (ht i e hi), fun hp => ?_⟩
    obtain ⟨C, t, g1, g2, g3⟩ := h4 hp
    exact ⟨C, t, g1, g2, fun i e j x hi hj => g3 i e j x (ht i e hi) hj⟩
def Same (L : Heap) (ids : List Nat) (ts : List Thing) : Prop :=
  ts.length = ids.length ∧ ∀ (i id : Nat), ids[i]? = some id → ∃ th th' : Thing, L.get id = some th ∧ ts[i]? = some th' ∧ th.open_ = true ∧ th.clean = true ∧ Cut th th'
theorem Same.nil : Same L [] [] := ⟨rfl, fun i id h => by simp at h⟩
theorem Same.append {ids ids' : List Nat} {ts ts' : List Thing} (h : Same L ids ts) (k : Same L ids' ts') : Same L (ids ++ ids') (ts ++ ts') := by
  refine ⟨by simp [h.1, k.1], fun i id hi => ?_⟩
  rcases Nat.lt_or_ge i ids.length with hlt | hge
  · rw [List.getElem?_append_left hlt] at hi
    obtain ⟨th, th', h1, h2, h3⟩ := h.2 i id hi
    exact ⟨th, th', h1, by rw [List.getElem?_append_left (by rw [h.1]; exact hlt)]; exact h2, h3⟩
  · rw [List.getElem?_append_right hge] at hi
    obtain ⟨th, th', h1, h2, h3⟩ := k.2 _ id hi
    exact ⟨th, th', h1, by rw [List.getElem?_append_right (by rw [h.1]; exact hge), h.1]; exact h2, h3⟩

/-- Their names in the other frame. -/
def Named (c c0 : Cx) (n : Nat) (ids : List Nat) : Prop := ∀ (i id : Nat), ids[i]? = some id → c0.A (n + i) ∧ c0.μ (n + i) = c.μ id
theorem Named.left {n : Nat} {ids ids' : List Nat} (h : Named c c0 n (ids ++ ids')) : Named c c0 n ids := fun i id hi => h i id (by rw [List.getElem?_append_left (List.getElem?_eq_some_iff.1 hi).1]; exact hi)
theorem Named.right {n : Nat} {ids ids' : List Nat} (h : Named c c0 n (ids ++ ids')) : Named c c0 (n + ids.length) ids' := fun i id hi => by
  have := h (ids.length + i) id (by rw [List.getElem?_append_right (by omega), show ids.length + i - ids.length = i by omega]; exact hi)
  rw [← Nat.add_assoc] at this
  exact this

theorem ownC_sound (h : Heaps w c L.get) {v : V} {u : Value} (hR : R w c v u) {q : V × List Nat × List Nat} (hq : ownC L v = some q) (n : Nat) :
    Same L q.2.1 (thaw1 q.1 n).2 ∧ ∀ c0 hand rest, View c c0 L hand rest → Named c c0 n q.2.1 → (∀ id ∈ q.2.2, ¬ id ∈ hand ∧ id ∈ rest) → R w c0 (thaw1 q.1 n).1 u := by
  have plain : (Fm.dr L.get .fresh deep v).map (fun v' => (v', ([] : List Nat), refs L.get deep v)) = some q → Same L q.2.1 (thaw1 q.1 n).2 ∧ ∀ c0 hand rest, View c c0 L hand rest → Named c c0 n q.2.1 → (∀ id ∈ q.2.2, ¬ id ∈ hand ∧ id ∈ rest) → R w c0 (thaw1 q.1 n).1 u := by
    intro hq
    obtain ⟨v', hd, rfl⟩ := Option.map_eq_some_iff.1 hq
    obtain ⟨e1, _⟩ := dr_notown (by simp) hd n
    simp only [e1]
    exact ⟨Same.nil, fun c0 hand rest hV _ hid => (hV.dr h (by simp) hR hd (fun id hi => (hid id hi).1) fun _ id hi => (hid id hi).2).up⟩
  unfold ownC at hq
  split at hq
  · rename_i id sz0 off len
    split at hq
    · rename_i sz es hth
      split at hq
      · rename_i hc
        obtain ⟨rfl, hle⟩ := hc
        cases hq
        have hlen : (es.take len).length = len := by simp; omega
        refine ⟨⟨rfl, fun i id' hi => ?_⟩, fun c0 hand rest hV hN _ => ?_⟩
        · cases i with
          | zero => simp at hi; subst hi; exact ⟨_, _, hth, rfl, rfl, rfl, .inr ⟨_, _, len, rfl, rfl⟩⟩
          | succ i => simp at hi
        · simp only [thaw1, hlen]
          obtain ⟨hA, hμ⟩ := hN 0 id rfl
          obtain ⟨hA', A, cap, rfl, hcap, hne, hl⟩ := hR.sl_inv
          obtain ⟨l, hm, hLies⟩ := h.at_ id _ hth
          refine .sl ⟨hA, A, cap, rfl, hcap, hne, fun l' hl' => ?_⟩
          simp only [Nat.add_zero] at hμ
          rw [hμ] at hl'
          obtain ⟨h1, h2, h3⟩ := hl l' hl'
          rw [hm] at hl'
          cases hl'
          exact ⟨hLies.1, h2, h3⟩
      · exact plain hq
    · exact plain hq
  · rename_i id
    split at hq
    · rename_i es hth
      cases hq
      refine ⟨⟨rfl, fun i id' hi => ?_⟩, fun c0 hand rest hV hN _ => ?_⟩
      · cases i with
        | zero => simp at hi; subst hi; exact ⟨_, _, hth, rfl, rfl, rfl, .inl rfl⟩
        | succ i => simp at hi
      · obtain ⟨hA, hμ⟩ := hN 0 id rfl
        cases hR with
        | mp hp =>
          obtain ⟨_, r, rfl, hl⟩ := hp
          exact .mp ⟨hA, r, rfl, fun l' hl' => hl l' (by rw [← hμ]; exact hl')⟩
    · exact plain hq
  · exact plain hq

theorem ownL_sound (h : Heaps w c L.get) : ∀ {cs : List V} {us : List Value} {q : List V × List Nat × List Nat}, Rs w c cs us → ownL L cs = some q → ∀ n : Nat,
    Same L q.2.1 (thawL q.1 n).2 ∧ ∀ c0 hand rest, View c c0 L hand rest → Named c c0 n q.2.1 → (∀ id ∈ q.2.2, ¬ id ∈ hand ∧ id ∈ rest) → Rs w c0 (thawL q.1 n).1 us
  | [], [], q, _, hq, n => by
    cases hq
    exact ⟨Same.nil, fun c0 _ _ _ _ _ => Rs.nil _ _⟩
  | v :: cs, u :: us, q, hR, hq, n => by
    simp only [ownL, Option.bind_eq_some_iff] at hq
    obtain ⟨r, hr, q', hq', he⟩ := hq
    cases he
    obtain ⟨s1, s2⟩ := ownC_sound h hR.head hr n
    obtain ⟨t1, t2⟩ := ownL_sound h hR.tail hq' (n + (thaw1 r.1 n).2.length)
    simp only [thawL]
    refine ⟨s1.append t1, fun c0 hand rest hV hN hid => Rs.cons (s2 c0 hand rest hV hN.left fun id hi => hid id (List.mem_append_left _ hi)) (t2 c0 hand rest hV ?_ fun id hi => hid id (List.mem_append_right _ hi))⟩
    rw [s1.1]
    exact hN.right
  | [], _ :: _, _, hR, _, _ => by have := hR.1; simp at this
  | _ :: _, [], _, hR, _, _ => by have := hR.1; simp at this

theorem ownC_cell {v : V} {q : V × List Nat × List Nat} (hq : ownC L v = some q) (hc : isCell v = true) (n : Nat) : isCell (thaw1 q.1 n).1 = true := by
  have plain : (Fm.dr L.get .fresh deep v).map (fun v' => (v', ([] : List Nat), refs L.get deep v)) = some q → isCell (thaw1 q.1 n).1 = true := by
    intro hq
    obtain ⟨v', hd, rfl⟩ := Option.map_eq_some_iff.1 hq
    obtain ⟨e1, _⟩ := dr_notown (by simp) hd n
    simp only [e1]
    exact dr_cell hd hc
  unfold ownC at hq
  split at hq
  · split at hq
    · split at hq
      · cases hq; rfl
      · exact plain hq
    · exact plain hq
  · split at hq
    · cases hq; rfl
    · exact plain hq
  · exact plain hq
theorem ownL_cell : ∀ {cs : List V} {q : List V × List Nat × List Nat}, ownL L cs = some q → cs.all isCell = true → ∀ n, (thawL q.1 n).1.all isCell = true ∧ (thawL q.1 n).1.length = cs.length
  | [], q, hq, _, n => by cases hq; exact ⟨rfl, rfl⟩
  | v :: cs, q, hq, hc, n => by
    simp only [ownL, Option.bind_eq_some_iff] at hq
    obtain ⟨r, hr, q', hq', he⟩ := hq
    cases he
    simp only [List.all_cons, Bool.and_eq_true] at hc
    obtain ⟨g1, g2⟩ := ownL_cell hq' hc.2 (n + (thaw1 r.1 n).2.length)
    simp only [thawL, List.all_cons, List.length_cons, g2, Bool.and_eq_true]
    exact ⟨⟨ownC_cell hr hc.1 n, g1⟩, trivial⟩

theorem box_rs {l : Loc} {cs : List V} (h : Lies w c l (.box cs)) : 0 < l.K ∧ ∃ C t, w.heap[l.b]? = some (.cells C t (0, 0)) ∧ l.o + cs.length ≤ C.size ∧ Rs w c cs ((C.toList.drop l.o).take cs.length) ∧ cs.all isCell = true := by
  obtain ⟨hp, C, t, g1, g2, g3⟩ := h
  refine ⟨hp, C, t, g1, g2, ⟨by simp; omega, fun j x v hj hv => ?_⟩, ?_⟩
  · obtain ⟨_, v', k2, k3⟩ := g3 j x hj
    rw [List.getElem?_take, if_pos (List.getElem?_eq_some_iff.1 hj).1, List.getElem?_drop] at hv
    have : C[l.o + j]? = some v := by simpa using hv
    rw [k2] at this
    cases this
    exact k3
  · rw [List.all_eq_true]
    intro x hx
    obtain ⟨j, hj⟩ := List.mem_iff_getElem?.1 hx
    exact (g3 j x hj).1
theorem box_lies {l : Loc} {cs : List V} {C : Array Value} {t : TypeId} (hp : 0 < l.K) (hC : w.heap[l.b]? = some (.cells C t (0, 0))) (hsz : l.o + cs.length ≤ C.size) (hR : Rs w c cs ((C.toList.drop l.o).take cs.length)) (hc : cs.all isCell = true) : Lies w c l (.box cs) := by
  refine ⟨hp, C, t, hC, hsz, fun j x hj => ?_⟩
  obtain ⟨v, h1, h2⟩ := hR.get hj
  refine ⟨allCell_get hc j x hj, v, ?_, h2⟩
  rw [List.getElem?_take, if_pos (List.getElem?_eq_some_iff.1 hj).1, List.getElem?_drop] at h1
  simpa using h1

theorem dr_plain {H : HeapF} {fl : Fl} (hf : fl ≠ .own) {d : Nat} {v v' : V} (h : dr H fl d v = some v') : (∀ cs, v' ≠ .rw cs) ∧ ∀ sz es, v' ≠ .arr .own sz es := by
  obtain ⟨h1, h2⟩ := dr_notown hf h 0
  refine ⟨h2, fun sz es e => ?_⟩
  subst e
  cases h1

/-- What is said of the arguments as the callee has them. -/
structure Passed (w : World) (c : Cx) (L : Heap) (p : Pass) (n : Nat) (us : List Value) (ids : List Nat) : Prop where
  len : (enterA p.args n).2.1.length = ids.length
  perm : ids.Perm (p.boxes ++ p.rows)
  blen : (enterA p.args n).2.2.length = p.boxes.length
  box : ∀ (j b m : Nat), (enterA p.args n).2.2[j]? = some b → p.boxes[j]? = some m → n ≤ b ∧ ids[b - n]? = some m
  was : ∀ (i id : Nat), ids[i]? = some id → ∃ th, L.get id = some th ∧ th.open_ = true
  lies : ∀ (i id : Nat) (th th' : Thing), ids[i]? = some id → L.get id = some th → (enterA p.args n).2.1[i]? = some th' → th'.open_ = true ∧ ∀ c0 hand rest, View c c0 L hand rest → Named c c0 n ids → (∀ id ∈ p.reads, ¬ id ∈ hand) → (∀ id ∈ p.rest, id ∈ rest) → ∀ l, c.μ id = some l → Lies w c l th → Lies w c0 l th'
  vals : ∀ c0 hand rest, View c c0 L hand rest → Named c c0 n ids → (∀ id ∈ p.reads, ¬ id ∈ hand) → (∀ id ∈ p.rest, id ∈ rest) → Rs w c0 (enterA p.args n).1 us
  rest : ∀ id ∈ p.rest, id ∈ p.reads
  rows : ∀ id ∈ p.rows, ∃ th, L.get id = some th ∧ th.open_ = true ∧ th.clean = true

theorem enterA_plain {v : V} (hv : (∀ cs, v ≠ .rw cs) ∧ ∀ sz es, v ≠ .arr .own sz es) (vs : List V) (n : Nat) : enterA (v :: vs) n = (v :: (enterA vs n).1, (enterA vs n).2.1, (enterA vs n).2.2) := by
  cases v <;> first
    | rfl
    | exact absurd rfl (hv.1 _)
    | (rename_i f sz es
       cases f <;> first | rfl | exact absurd rfl (hv.2 _ _))

theorem Passed.plain {v : V} {u : Value} {us : List Value} {p : Pass} {n : Nat} {ids rd rs : List Nat} (hp : Passed w c L p n us ids) (hv : (∀ cs, v ≠ .rw cs) ∧ ∀ sz es, v ≠ .arr .own sz es) (hsub : ∀ id ∈ rs, id ∈ rd)
    (hR : ∀ c0 hand rest, View c c0 L hand rest → (∀ id ∈ rd, ¬ id ∈ hand) → (∀ id ∈ rs, id ∈ rest) → R w c0 v u) : Passed w c L ⟨v :: p.args, p.boxes, p.rows, rd ++ p.reads, rs ++ p.rest⟩ n (u :: us) ids where
  len := by simp only [enterA_plain hv]; exact hp.len
  perm := hp.perm
  blen := by simp only [enterA_plain hv]; exact hp.blen
  box := by simp only [enterA_plain hv]; exact hp.box
  was := hp.was
  lies := by
    simp only [enterA_plain hv]
    intro i id th th' h1 h2 h3
    obtain ⟨g1, g2⟩ := hp.lies i id th th' h1 h2 h3
    exact ⟨g1, fun c0 hand rest hV hN hr ht => g2 c0 hand rest hV hN (fun id hi => hr id (List.mem_append_right _ hi)) fun id hi => ht id (List.mem_append_right _ hi)⟩
  vals := by
    simp only [enterA_plain hv]
    intro c0 hand rest hV hN hr ht
    exact Rs.cons (hR c0 hand rest hV (fun id hi => hr id (List.mem_append_left _ hi)) fun id hi => ht id (List.mem_append_left _ hi))
      (hp.vals c0 hand rest hV hN (fun id hi => hr id (List.mem_append_right _ hi)) fun id hi => ht id (List.mem_append_right _ hi))
  rest id hi := by
    rcases List.mem_append.1 hi with h | h
    · exact List.mem_append_left _ (hsub id h)
    · exact List.mem_append_right _ (hp.rest id h)
  rows := hp.rows

theorem pass_sound (h : Heaps w c L.get) {leaky : Bool} : ∀ {rwp : List (Option Nat)} {args : List V} {us : List Value} {p : Pass}, Rs w c args us → pass L leaky rwp args = some p → ∀ n, ∃ ids, Passed w c L p n us ids
  | rwp, [], [], p, _, hp, n => by
    simp only [pass, Option.some.injEq] at hp
    subst hp
    exact ⟨[], rfl, by simp, rfl, fun j b m hj => by simp [enterA] at hj, fun i id hi => by simp at hi, fun i id th th' hi => by simp at hi, fun _ _ _ _ _ _ _ => Rs.nil _ _, fun _ hi => hi, fun _ hi => by simp at hi⟩
  | rwp, v :: vs, u :: us, p, hR, hp, n => by
    simp only [pass] at hp
    split at hp
    · -- a row
      split at hp
      · rename_i id sz len
        split at hp
        · rename_i sz' es hth
          split at hp
          · rename_i hcond
            obtain ⟨rfl, rfl⟩ := hcond
            obtain ⟨p', hp', rfl⟩ := Option.map_eq_some_iff.1 hp
            have hR0 := hR.head
            obtain ⟨ids, hP⟩ := pass_sound h hR.tail hp' (n + 1)
            have e1 : enterA (.arr .own sz' es :: p'.args) n = (.sl n sz' 0 es.length :: (enterA p'.args (n + 1)).1, .row sz' true true es :: (enterA p'.args (n + 1)).2.1, n :: (enterA p'.args (n + 1)).2.2) := rfl
            have hN1 : ∀ {c0 : Cx}, Named c c0 n (id :: ids) → (c0.A n ∧ c0.μ n = c.μ id) ∧ Named c c0 (n + 1) ids := by
              intro c0 hN
              refine ⟨by simpa using hN 0 id rfl, fun i id' hi => ?_⟩
              have := hN (i + 1) id' (by simpa using hi)
              rw [show n + 1 + i = n + (i + 1) by omega]
              exact this
            refine ⟨id :: ids, ?_⟩
            constructor
            · have := hP.len
              rw [e1]; simp only [List.length_cons]; omega
            · exact List.Perm.cons _ hP.perm
            · have := hP.blen
              rw [e1]; simp only [List.length_cons]; omega
            · intro j b m' hj hm'
              rw [e1] at hj
              cases j with
              | zero =>
                simp at hj hm'
                subst hj
                subst hm'
                exact ⟨Nat.le_refl _, by rw [Nat.sub_self]; rfl⟩
              | succ j =>
                simp at hj hm'
                obtain ⟨g1, g2⟩ := hP.box j b m' hj hm'
                refine ⟨by omega, ?_⟩
                rw [show b - n = (b - (n + 1)) + 1 by omega]
                simpa using g2
            · intro i id' hi
              cases i with
              | zero => cases hi; exact ⟨_, hth, rfl⟩
              | succ i => exact hP.was i id' (by simpa using hi)
            · intro i id' th th' hi hL hT
              rw [e1] at hT
              cases i with
              | zero =>
                cases hi
                cases hT
                rw [hth] at hL
                cases hL
                exact ⟨rfl, fun c0 hand rest hV _ _ _ l' _ hl => hl.other rfl hV.Sf hV.So⟩
              | succ i =>
                obtain ⟨g1, g2⟩ := hP.lies i id' th th' (by simpa using hi) hL (by simpa using hT)
                exact ⟨g1, fun c0 hand rest hV hN hr ht => g2 c0 hand rest hV (hN1 hN).2 hr ht⟩
            · intro c0 hand rest hV hN hr ht
              rw [e1]
              obtain ⟨⟨n2, n3⟩, n4⟩ := hN1 hN
              refine Rs.cons ?_ (hP.vals c0 hand rest hV n4 hr ht)
              cases hR0 with
              | sl hsl =>
                obtain ⟨hA, A, cap, rfl, hc1, hc2, hb⟩ := hsl
                exact .sl ⟨n2, A, cap, rfl, hc1, hc2, fun l' hl' => hb l' (by rw [← n3]; exact hl')⟩
            · exact hP.rest
            · exact hP.rows
          · cases hp
        · cases hp
      · obtain ⟨p', hp', rfl⟩ := Option.map_eq_some_iff.1 hp
        obtain ⟨ids, hP⟩ := pass_sound h hR.tail hp' n
        have := hP.plain (v := .nilsl) (u := u) (rd := []) (rs := []) ⟨fun _ => V.noConfusion, fun _ _ => V.noConfusion⟩ (fun _ hi => hi) fun c0 hand rest hV _ _ => by
          have h0 := hR.head
          cases h0
          exact .nilsl
        exact ⟨ids, this⟩
      · cases hp
    · -- a box
      rename_i m hm
      split at hp
      · rename_i id
        split at hp
        · rename_i cs hth
          split at hp
          · rename_i hlen
            obtain ⟨q, hq, hp⟩ := Option.bind_eq_some_iff.1 hp
            obtain ⟨p', hp', rfl⟩ := Option.map_eq_some_iff.1 hp
            obtain ⟨l, hml, hLies⟩ := h.at_ id _ hth
            obtain ⟨hK, C, t, hC, hsz, hRs, hcell⟩ := box_rs hLies
            obtain ⟨s1, s2⟩ := ownL_sound h hRs hq n
            obtain ⟨c1, c2⟩ := ownL_cell hq hcell n
            have hR0 := hR.head
            obtain ⟨ids, hP⟩ := pass_sound h hR.tail hp' (n + (thawL q.1 n).2.length + 1)
            have e1 : enterA (.rw q.1 :: p'.args) n = (.pt (n + (thawL q.1 n).2.length) 0 0 :: (enterA p'.args (n + (thawL q.1 n).2.length + 1)).1, (thawL q.1 n).2 ++ .box (thawL q.1 n).1 :: (enterA p'.args (n + (thawL q.1 n).2.length + 1)).2.1, (n + (thawL q.1 n).2.length) :: (enterA p'.args (n + (thawL q.1 n).2.length + 1)).2.2) := rfl
            have hsl := s1.1
            have hget : ∀ i, (q.2.1 ++ id :: ids)[i]? = if i < q.2.1.length then q.2.1[i]? else if i = q.2.1.length then some id else ids[i - q.2.1.length - 1]? := by
              intro i
              by_cases h1 : i < q.2.1.length
              · rw [if_pos h1, List.getElem?_append_left h1]
              · rw [if_neg h1, List.getElem?_append_right (by omega)]
                by_cases h2 : i = q.2.1.length
                · rw [if_pos h2, h2, Nat.sub_self]; rfl
                · rw [if_neg h2, show i - q.2.1.length = (i - q.2.1.length - 1) + 1 by omega]; rfl
            have hgetT : ∀ i, ((thawL q.1 n).2 ++ Thing.box (thawL q.1 n).1 :: (enterA p'.args (n + (thawL q.1 n).2.length + 1)).2.1)[i]? = if i < q.2.1.length then (thawL q.1 n).2[i]? else if i = q.2.1.length then some (.box (thawL q.1 n).1) else (enterA p'.args (n + (thawL q.1 n).2.length + 1)).2.1[i - q.2.1.length - 1]? := by
              intro i
              by_cases h1 : i < q.2.1.length
              · rw [if_pos h1, List.getElem?_append_left (by omega)]
              · rw [if_neg h1, List.getElem?_append_right (by omega), hsl]
                by_cases h2 : i = q.2.1.length
                · rw [if_pos h2, h2, Nat.sub_self]; rfl
                · rw [if_neg h2, show i - q.2.1.length = (i - q.2.1.length - 1) + 1 by omega]; rfl
            have hN1 : ∀ {c0 : Cx}, Named c c0 n (q.2.1 ++ id :: ids) → Named c c0 n q.2.1 ∧ (c0.A (n + q.2.1.length) ∧ c0.μ (n + q.2.1.length) = c.μ id) ∧ Named c c0 (n + (thawL q.1 n).2.length + 1) ids := by
              intro c0 hN
              refine ⟨hN.left, ?_, fun i id' hi => ?_⟩
              · exact hN q.2.1.length id (by rw [hget, if_neg (by omega), if_pos rfl])
              · have := hN (q.2.1.length + 1 + i) id' (by rw [hget, if_neg (by omega), if_neg (by omega)]; rw [← hi]; congr 1; omega)
                rw [hsl, show n + q.2.1.length + 1 + i = n + (q.2.1.length + 1 + i) by omega]
                exact this
            refine ⟨q.2.1 ++ id :: ids, ?_⟩
            constructor
            · have := hP.len
              rw [e1]; simp only [List.length_append, List.length_cons]; omega
            · have := hP.perm
              simp only [List.cons_append]
              refine List.Perm.trans (List.perm_middle) (List.Perm.cons _ ?_)
              refine List.Perm.trans (List.Perm.append_left _ this) ?_
              rw [← List.append_assoc, ← List.append_assoc]
              exact List.Perm.append_right _ List.perm_append_comm
            · have := hP.blen
              rw [e1]; simp only [List.length_cons]; omega
            · intro j b m' hj hm'
              rw [e1] at hj
              cases j with
              | zero =>
                simp at hj hm'
                subst hj
                subst hm'
                refine ⟨by omega, ?_⟩
                rw [hget, if_neg (by omega), if_pos (by omega)]
              | succ j =>
                simp at hj hm'
                obtain ⟨g1, g2⟩ := hP.box j b m' hj hm'
                refine ⟨by omega, ?_⟩
                rw [hget, if_neg (by omega), if_neg (by omega), ← g2]
                congr 1
                omega
            · intro i id' hi
              rw [hget] at hi
              split at hi
              · obtain ⟨th, _, g1, _, g3, _⟩ := s1.2 i id' hi
                exact ⟨th, g1, g3⟩
              · split at hi
                · cases hi; exact ⟨_, hth, rfl⟩
                · exact hP.was _ id' hi
            · intro i id' th th' hi hL hT
              rw [e1] at hT
              simp only [hgetT] at hT
              rw [hget] at hi
              split at hi
              · rename_i hlt
                rw [if_pos hlt] at hT
                obtain ⟨th1, th2, g1, g2, g3, g4, g5⟩ := s1.2 i id' hi
                rw [hL] at g1
                cases g1
                rw [g2] at hT
                cases hT
                exact ⟨g5.open_ g3, fun c0 hand rest hV _ _ _ l' _ hl => (g5.lies hl).other (g5.clean g4) hV.Sf hV.So⟩
              · rename_i hge
                rw [if_neg hge] at hT
                split at hi
                · rename_i heq
                  rw [if_pos heq] at hT
                  cases hi
                  cases hT
                  rw [hth] at hL
                  cases hL
                  refine ⟨rfl, fun c0 hand rest hV hN hr ht l' hl' hLies' => ?_⟩
                  rw [hml] at hl'
                  cases hl'
                  obtain ⟨n1, _, _⟩ := hN1 hN
                  have hRs0 := s2 c0 hand rest hV n1 fun id hi => ⟨hr id (List.mem_append_left _ hi), ht id (List.mem_append_left _ hi)⟩
                  exact box_lies hK hC (by rw [c2]; exact hsz) (by rw [c2]; exact hRs0) c1
                · rename_i hne
                  rw [if_neg hne] at hT
                  obtain ⟨g1, g2⟩ := hP.lies _ id' th th' hi hL hT
                  exact ⟨g1, fun c0 hand rest hV hN hr ht => g2 c0 hand rest hV (hN1 hN).2.2 (fun id hi => hr id (List.mem_append_right _ hi)) fun id hi => ht id (List.mem_append_right _ hi)⟩
            · intro c0 hand rest hV hN hr ht
              rw [e1]
              obtain ⟨_, ⟨n2, n3⟩, n4⟩ := hN1 hN
              refine Rs.cons ?_ (hP.vals c0 hand rest hV n4 (fun id hi => hr id (List.mem_append_right _ hi)) fun id hi => ht id (List.mem_append_right _ hi))
              cases hR0 with
              | pt hpt =>
                obtain ⟨hA, b, rfl, hb⟩ := hpt
                rw [hsl]
                exact .pt ⟨n2, b, rfl, fun l' hl' => hb l' (by rw [← n3]; exact hl')⟩
            · intro id' hi
              rcases List.mem_append.1 hi with h' | h'
              · exact List.mem_append_left _ h'
              · exact List.mem_append_right _ (hP.rest id' h')
            · intro id' hi
              rcases List.mem_append.1 hi with h' | h'
              · obtain ⟨i, hi'⟩ := List.mem_iff_getElem?.1 h'
                obtain ⟨th, _, g1, _, g3, g4, _⟩ := s1.2 i id' hi'
                exact ⟨th, g1, g3, g4⟩
              · exact hP.rows id' h'
          · cases hp
        · cases hp
      · cases hp
    · split at hp
      · rename_i v' hd
        split at hd
        · obtain ⟨p', hp', rfl⟩ := Option.map_eq_some_iff.1 hp
          obtain ⟨ids, hP⟩ := pass_sound h hR.tail hp' n
          exact ⟨ids, hP.plain (dr_plain (by simp) hd) (fun _ hi => hi) fun c0 hand rest hV hr ht => (hV.dr h (by simp) hR.head hd hr fun _ => ht).up⟩
        · cases hd
      · obtain ⟨v', hd, hp⟩ := Option.bind_eq_some_iff.1 hp
        obtain ⟨p', hp', rfl⟩ := Option.map_eq_some_iff.1 hp
        obtain ⟨ids, hP⟩ := pass_sound h hR.tail hp' n
        have := hP.plain (v := v') (u := u) (rd := refs L.get deep v) (rs := []) (dr_plain (by simp) hd) (fun _ hi => by simp at hi) fun c0 hand rest hV hr _ => (hV.dr h (by simp) hR.head hd hr fun e => by cases e).up
        exact ⟨ids, this⟩
  | _, [], _ :: _, _, hR, _, _ => by have := hR.1; simp at this
  | _, _ :: _, [], _, hR, _, _ => by have := hR.1; simp at this
end
end Go.Fm
end

section
/- FM: what leads into nobody else's memory. -/
set_option autoImplicit false
namespace Go.Fm

theorem noOldL_mem : ∀ {cs : List V}, noOldL cs = true → ∀ x ∈ cs, noOld x = true
  | [], _, x, h => by simp at h
  | c :: cs, h, x, hx => by
    simp only [noOldL, Bool.and_eq_true] at h
    rcases List.mem_cons.1 hx with rfl | hx
    · exact h.1
    · exact noOldL_mem h.2 x hx
theorem noOldLL_mem : ∀ {es : List (List V)}, noOldLL es = true → ∀ e ∈ es, noOldL e = true
  | [], _, x, h => by simp at h
  | c :: cs, h, x, hx => by
    simp only [noOldLL, Bool.and_eq_true] at h
    rcases List.mem_cons.1 hx with rfl | hx
    · exact h.1
    · exact noOldLL_mem h.2 x hx
theorem noOldP_mem : ∀ {es : List (V × V)}, noOldP es = true → ∀ p ∈ es, noOld p.1 = true ∧ noOld p.2 = true
  | [], _, x, h => by simp at h
  | (a, b) :: cs, h, x, hx => by
    simp only [noOldP, Bool.and_eq_true] at h
    rcases List.mem_cons.1 hx with rfl | hx
    · exact h.1
    · exact noOldP_mem h.2 x hx

section
variable {w : World}

/-- One view leads on to another, but for what is perhaps somebody else's. -/
structure ExtN (c c' : Cx) : Prop where
  A : ∀ id, c.A id → c'.A id
  μ : ∀ id l, c.A id → c'.μ id = some l → c.μ id = some l
  Sf : ∀ b, c.Sf b → c'.Sf b
theorem ExtN.bare {c c' : Cx} (h : ExtN c c') : ExtN c.bare c'.bare := ⟨fun _ h => h, fun _ _ h => h.elim, h.Sf⟩

theorem R.noOld {c : Cx} {x : V} {u : Value} (h : R w c x u) : ∀ {c' : Cx}, ExtN c c' → Fm.noOld x = true → R w c' x u := by
  induction h with
  | undef => exact fun _ _ => .undef
  | junk h => exact fun _ _ => .junk h
  | int k n => exact fun _ _ => .int k n
  | bool b => exact fun _ _ => .bool b
  | str s => exact fun _ _ => .str s
  | arr a cv hf hc hs hA hx hr ih =>
    intro c' he hn
    simp only [Fm.noOld, Bool.and_eq_true, bne_iff_ne, ne_eq] at hn
    refine .arr a cv hf hc hs (fun hne => ?_) hx fun i e j x h1 h2 => ih i e j x h1 h2 he.bare (noOldL_mem (noOldLL_mem hn.2 e (List.mem_of_getElem? h1)) x (List.mem_of_getElem? h2))
    obtain ⟨h1, h2, h3⟩ := hA hne
    refine ⟨h1, h2, ?_⟩
    rename_i f _ _ _ _
    cases f with
    | own => exact absurd rfl hf
    | fresh => exact he.Sf _ h3
    | old => exact absurd rfl hn.1
  | nilsl => exact fun _ _ => .nilsl
  | z A => exact fun _ _ => .z A
  | sl h =>
    intro c' he _
    obtain ⟨h0, A, cap, rfl, hc, hn, h1⟩ := h
    exact .sl ⟨he.A _ h0, A, cap, rfl, hc, hn, fun l hl => h1 l (he.μ _ l h0 hl)⟩
  | pt h =>
    intro c' he _
    obtain ⟨h0, a, rfl, h1⟩ := h
    exact .pt ⟨he.A _ h0, a, rfl, fun l hl => h1 l (he.μ _ l h0 hl)⟩
  | nilp => exact fun _ _ => .nilp
  | ro a cv hf ha hA hx hr ih =>
    intro c' he hn
    simp only [Fm.noOld, Bool.and_eq_true, bne_iff_ne, ne_eq] at hn
    refine .ro a cv hf ha (fun hne => ?_) hx fun j x h1 => ih j x h1 he.bare (noOldL_mem hn.2 x (List.mem_of_getElem? h1))
    have := hA hne
    rename_i f _
    cases f with
    | own => exact absurd rfl hf
    | fresh => exact he.Sf _ this
    | old => exact absurd rfl hn.1
  | mp h =>
    intro c' he _
    obtain ⟨h0, a, rfl, h1⟩ := h
    exact .mp ⟨he.A _ h0, a, rfl, fun l hl => h1 l (he.μ _ l h0 hl)⟩
  | map ents clock hf hA hm hl hk' hr ihk ih =>
    intro c' he hn
    simp only [Fm.noOld, Bool.and_eq_true, bne_iff_ne, ne_eq] at hn
    refine .map ents clock hf ?_ hm hl (fun i k x e h1 h2 => ihk i k x e h1 h2 he.bare (noOldP_mem hn.2 _ (List.mem_of_getElem? h1)).1) fun i k x e h1 h2 => ih i k x e h1 h2 he.bare (noOldP_mem hn.2 _ (List.mem_of_getElem? h1)).2
    rename_i f _ _
    cases f with
    | own => exact absurd rfl hf
    | fresh => exact he.Sf _ hA
    | old => exact absurd rfl hn.1
  | nilmap => exact fun _ _ => .nilmap
  | fn ha hb ra rb iha ihb =>
    intro c' he hn
    simp only [Fm.noOld, Bool.and_eq_true] at hn
    exact .fn ha hb (fun j x v h1 h2 => iha j x v h1 h2 he (noOldL_mem hn.1 x (List.mem_of_getElem? h1))) fun j x v h1 h2 => ihb j x v h1 h2 he (noOldL_mem hn.2 x (List.mem_of_getElem? h1))
  | agg hl hx hr ih =>
    intro c' he hn
    simp only [Fm.noOld] at hn
    exact .agg hl hx fun j x v h1 h2 => ih j x v h1 h2 he (noOldL_mem hn x (List.mem_of_getElem? h1))
  | tup hl hr ih =>
    intro c' he hn
    simp only [Fm.noOld] at hn
    exact .tup hl fun j x v h1 h2 => ih j x v h1 h2 he (noOldL_mem hn x (List.mem_of_getElem? h1))

theorem Lies.noOld {c c' : Cx} {l : Loc} {th : Thing} (h : Lies w c l th) (he : ExtN c c') (hn : th.noOld = true) : Lies w c' l th := by
  cases th with
  | row sz wr cl es =>
    obtain ⟨h1, h2, h3, h4⟩ := h
    refine ⟨h1, h2, h3, fun hp => ?_⟩
    obtain ⟨C, t, g1, g2, g3⟩ := h4 hp
    refine ⟨C, t, g1, g2, fun i e j x hi hj => ?_⟩
    obtain ⟨k1, v, k2, k3⟩ := g3 i e j x hi hj
    have hx := noOldL_mem (noOldLL_mem hn e (List.mem_of_getElem? hi)) x (List.mem_of_getElem? hj)
    refine ⟨k1, v, k2, ?_⟩
    cases cl with
    | true => exact R.noOld k3 he.bare hx
    | false => exact R.noOld k3 he hx
  | box cs =>
    obtain ⟨hp, C, t, g1, g2, g3⟩ := h
    refine ⟨hp, C, t, g1, g2, fun j x hj => ?_⟩
    obtain ⟨k1, v, k2, k3⟩ := g3 j x hj
    exact ⟨k1, v, k2, R.noOld k3 he (noOldL_mem hn x (List.mem_of_getElem? hj))⟩
  | map wr es =>
    obtain ⟨hp, ents, clock, g1, g2, g3⟩ := h
    refine ⟨hp, ents, clock, g1, g2, fun i k x e h1 h2 => ?_⟩
    obtain ⟨k1, k2⟩ := g3 i k x e h1 h2
    have := noOldP_mem hn _ (List.mem_of_getElem? h1)
    exact ⟨R.noOld k1 he.bare this.1, R.noOld k2 he.bare this.2⟩

/-! ### Thawed things lead nowhere else either, and may be written -/
def AllT (p : Thing → Bool) (ts : List Thing) : Prop := ∀ t ∈ ts, p t = true
theorem AllT.append {p : Thing → Bool} {a b : List Thing} (h : AllT p a) (k : AllT p b) : AllT p (a ++ b) := fun t ht => (List.mem_append.1 ht).elim (h t) (k t)
theorem AllT.nil {p : Thing → Bool} : AllT p [] := fun t h => by simp at h

theorem thaw1_no {v : V} (h : Fm.noOld v = true) (n : Nat) : Fm.noOld (thaw1 v n).1 = true ∧ AllT Thing.noOld (thaw1 v n).2 := by
  unfold thaw1
  split
  · simp only [Fm.noOld, Bool.and_eq_true] at h
    exact ⟨rfl, fun t ht => by simp at ht; subst ht; exact h.2⟩
  · simp only [Fm.noOld, Bool.and_eq_true] at h
    exact ⟨rfl, fun t ht => by simp at ht; subst ht; exact h.2⟩
  · exact ⟨h, AllT.nil⟩
theorem thawL_no : ∀ {cs : List V}, noOldL cs = true → ∀ n, noOldL (thawL cs n).1 = true ∧ AllT Thing.noOld (thawL cs n).2
  | [], _, n => ⟨rfl, AllT.nil⟩
  | c :: cs, h, n => by
    simp only [noOldL, Bool.and_eq_true] at h
    obtain ⟨a1, a2⟩ := thaw1_no h.1 n
    obtain ⟨b1, b2⟩ := thawL_no h.2 (n + (thaw1 c n).2.length)
    simp only [thawL, noOldL, a1, b1]
    exact ⟨rfl, a2.append b2⟩
theorem thawV_no {v : V} (h : Fm.noOld v = true) (n : Nat) : Fm.noOld (thawV v n).1 = true ∧ AllT Thing.noOld (thawV v n).2 := by
  unfold thawV
  split
  · simp only [Fm.noOld] at h
    obtain ⟨a1, a2⟩ := thawL_no h n
    exact ⟨by simpa only [Fm.noOld] using a1, a2⟩
  · simp only [Fm.noOld] at h
    obtain ⟨a1, a2⟩ := thawL_no h n
    exact ⟨rfl, a2.append fun t ht => by simp at ht; subst ht; exact a1⟩
  · exact thaw1_no h n
theorem thawVs_no : ∀ {cs : List V}, noOldL cs = true → ∀ n, noOldL (thawVs cs n).1 = true ∧ AllT Thing.noOld (thawVs cs n).2
  | [], _, n => ⟨rfl, AllT.nil⟩
  | c :: cs, h, n => by
    simp only [noOldL, Bool.and_eq_true] at h
    obtain ⟨a1, a2⟩ := thawV_no h.1 n
    obtain ⟨b1, b2⟩ := thawVs_no h.2 (n + (thawV c n).2.length)
    simp only [thawVs, noOldL, a1, b1]
    exact ⟨rfl, a2.append b2⟩
theorem thaw_no {v : V} (h : Fm.noOld v = true) (n : Nat) : Fm.noOld (thaw v n).1 = true ∧ AllT Thing.noOld (thaw v n).2 := by
  unfold thaw
  split
  · simp only [Fm.noOld] at h
    obtain ⟨a1, a2⟩ := thawVs_no h n
    exact ⟨by simpa only [Fm.noOld] using a1, a2⟩
  · exact thawV_no h n
theorem thawT_no {t : Thing} (h : t.noOld = true) (n : Nat) : (thawT t n).1.noOld = true ∧ AllT Thing.noOld (thawT t n).2 := by
  unfold thawT
  split
  · obtain ⟨a1, a2⟩ := thawL_no h n
    exact ⟨a1, a2⟩
  · exact ⟨h, AllT.nil⟩
theorem thawLs_no : ∀ {ts : List Thing}, ts.all Thing.back = true → ∀ n, AllT Thing.noOld (thawLs ts n).1 ∧ AllT Thing.noOld (thawLs ts n).2
  | [], _, n => ⟨AllT.nil, AllT.nil⟩
  | t :: ts, h, n => by
    simp only [List.all_cons, Thing.back, Bool.and_eq_true] at h
    obtain ⟨a1, a2⟩ := thawT_no h.1.2 n
    obtain ⟨b1, b2⟩ := thawLs_no h.2 (n + (thawT t n).2.length)
    refine ⟨fun x hx => ?_, a2.append b2⟩
    rcases List.mem_cons.1 hx with rfl | hx
    · exact a1
    · exact b1 x hx

theorem thaw1_open (v : V) (n : Nat) : AllT Thing.open_ (thaw1 v n).2 := by
  unfold thaw1
  split <;> intro t ht <;> simp at ht <;> subst ht <;> rfl
theorem thawL_open : ∀ (cs : List V) (n : Nat), AllT Thing.open_ (thawL cs n).2
  | [], n => AllT.nil
  | c :: cs, n => (thaw1_open c n).append (thawL_open cs _)
theorem thawV_open (v : V) (n : Nat) : AllT Thing.open_ (thawV v n).2 := by
  unfold thawV
  split
  · exact thawL_open _ n
  · exact (thawL_open _ n).append fun t ht => by simp at ht; subst ht; rfl
  · exact thaw1_open _ n
theorem thawVs_open : ∀ (cs : List V) (n : Nat), AllT Thing.open_ (thawVs cs n).2
  | [], n => AllT.nil
  | c :: cs, n => (thawV_open c n).append (thawVs_open cs _)
theorem thaw_open (v : V) (n : Nat) : AllT Thing.open_ (thaw v n).2 := by
  unfold thaw
  split
  · exact thawVs_open _ n
  · exact thawV_open _ n
theorem thawT_open (t : Thing) (n : Nat) : AllT Thing.open_ (thawT t n).2 := by
  unfold thawT
  split
  · exact thawL_open _ n
  · exact AllT.nil
theorem thawT_open1 {t : Thing} (h : t.open_ = true) (n : Nat) : (thawT t n).1.open_ = true := by
  unfold thawT
  split
  · rfl
  · exact h
theorem thawLs_open : ∀ (ts : List Thing) (n : Nat), AllT Thing.open_ (thawLs ts n).2
  | [], n => AllT.nil
  | t :: ts, n => (thawT_open t n).append (thawLs_open ts _)
theorem thawLs_open1 : ∀ {ts : List Thing}, ts.all Thing.back = true → ∀ n, AllT Thing.open_ (thawLs ts n).1
  | [], _, n => AllT.nil
  | t :: ts, h, n => by
    simp only [List.all_cons, Thing.back, Bool.and_eq_true] at h
    intro x hx
    rcases List.mem_cons.1 hx with rfl | hx
    · exact thawT_open1 h.1.1 n
    · exact thawLs_open1 h.2 _ x hx
theorem thawLs_len : ∀ (css : List Thing) (n : Nat), (thawLs css n).1.length = css.length
  | [], n => rfl
  | c :: cs, n => by simp [thawLs, thawLs_len cs]
end
end Go.Fm
end

section
/- FM: calls, from the caller's side. -/
set_option autoImplicit false
namespace Go.Fm

structure Turn (w : World) (c0 : Cx) (H0 : HeapF) (w' : World) (c1 : Cx) (H1 : HeapF) : Prop where
  heaps : Heaps w' c1 H1
  Sf : ∀ b, c0.Sf b → c1.Sf b
  So : ∀ b, c0.So b → c1.So b
  size : w.heap.size ≤ w'.heap.size
  same : ∀ b, b < w.heap.size → ¬ OpenB c0 H0 b → w'.heap[b]? = w.heap[b]?
  opens : ∀ b, OpenB c1 H1 b → OpenB c0 H0 b ∨ w.heap.size ≤ b
  sf : ∀ b, c1.Sf b → c0.Sf b ∨ OpenB c0 H0 b ∨ w.heap.size ≤ b
  os : w'.os = w.os
  tape : w'.tape = w.tape
  output : w'.output = w.output

def inH (args : List V) : HeapF := fun i => (enterA args 0).2.1[i]?
def outH (n0 : Nat) (names : List Nat) (css : List Thing) (ts : List Thing) : HeapF := fun i => if n0 ≤ i then ts[i - n0]? else boxAt names css i

structure In (w : World) (c0 : Cx) (args : List V) (us : List Value) : Prop where
  heaps : Heaps w c0 (inH args)
  A : ∀ i, c0.A i ↔ i < (enterA args 0).2.1.length
  vals : Rs w c0 (enterA args 0).1 us

/-- The things that come out. -/
def outT (r : Res) (n0 : Nat) : List Thing := (thawLs r.2 n0).2 ++ (thaw r.1 (n0 + (thawLs r.2 n0).2.length)).2
def Back (w : World) (c0 : Cx) (args : List V) (r : Res) (w' : World) (u : Value) : Prop :=
  r.2.length = (enterA args 0).2.2.length ∧
  ∀ (n0 : Nat) (names : List Nat), names.length = (enterA args 0).2.2.length → names.Nodup → (∀ i ∈ names, i < n0) →
    ∃ c1, Turn w c0 (inH args) w' c1 (outH n0 names (thawLs r.2 n0).1 (outT r n0)) ∧
      (∀ (j b m : Nat), (enterA args 0).2.2[j]? = some b → names[j]? = some m → c1.μ m = c0.μ b) ∧
      (∀ i, c1.A i ↔ i ∈ names ∨ (n0 ≤ i ∧ i < n0 + (outT r n0).length)) ∧
      R w' c1 (thaw r.1 (n0 + (thawLs r.2 n0).2.length)).1 u

/-- What a function's calls come to. -/
def Meets (P : Program) (f : FuncId) (ans : List V → Option Res) : Prop :=
  ∀ (args : List V) (r : Res), ans args = some r → ∀ (w : World) (c0 : Cx) (us : Array Value), In w c0 args us.toList →
    Calls P f us w fun e w' => ∃ u, e = .returned u ∧ Back w c0 args r w' u

section
variable {P : Program} {w : World} {c : Cx} {H : HeapF} {nx : Nat} {L : Heap}

theorem boxAt_from : ∀ {ms : List Nat} {css : List Thing} {i : Nat} {cs : Thing}, boxAt ms css i = some cs → cs ∈ css
  | [], _, _, _, h => by simp [boxAt] at h
  | m :: ms, [], _, _, h => by simp [boxAt] at h
  | m :: ms, cs0 :: css, i, cs, h => by
    simp only [boxAt] at h
    split at h
    · cases h; exact List.mem_cons_self ..
    · exact List.mem_cons_of_mem _ (boxAt_from h)

/-- A call, seen from the caller: what the callee needs, and what the caller has of what it answers. -/
theorem call_frame {ans : List V → Option Res} {d : Def} (h : Heaps w c H) (ha : Agree nx L H) {args : List V} {us : Array Value} (hR : Rs w c args us.toList) {r : Out} (hr : callDef d ans args L nx = some r)
    (hfree : ∀ j, nx ≤ j → j < r.2.2.1 → ¬ c.A j) : ∃ args' res c0, ans args' = some res ∧ In w c0 args' us.toList ∧ ∀ u w', Back w c0 args' res w' u → ∃ c' H', Did w c H nx L w' c' H' r.2.2.1 r.2.1 r.2.2.2 ∧ R w' c' r.1 u := by
  unfold callDef at hr
  obtain ⟨p, hp, hr⟩ := Option.bind_eq_some_iff.1 hr
  split at hr
  · rename_i hcond
    obtain ⟨hnd, hall⟩ := hcond
    obtain ⟨res, hres, hr⟩ := Option.bind_eq_some_iff.1 hr
    split at hr
    · rename_i hno
      obtain ⟨no1, no2⟩ := hno
      simp only [Option.some.injEq] at hr
      have hL := ha.heaps h
      obtain ⟨ids, hP⟩ := pass_sound hL hR hp 0
      obtain ⟨c2, H2, fz⟩ := freeze_sound p.rest h ha
      have h2 := fz.step.heaps
      have mem : ∀ id, id ∈ ids ↔ id ∈ p.boxes ++ p.rows := fun id => hP.perm.mem_iff
      have ndI : ids.Nodup := hP.perm.nodup_iff.2 hnd
      have notread : ∀ id ∈ p.boxes ++ p.rows, ¬ id ∈ p.reads := by
        intro id hid
        have := List.all_eq_true.1 hall id hid
        simpa using this
      have hget : ∀ id ∈ p.boxes ++ p.rows, (freeze L p.rest).get id = L.get id := fun id hid => freeze_other _ _ (by
        have : ¬ id ∈ p.rest := fun hi => notread id hid (hP.rest id hi)
        simpa using this)
      have was : ∀ id ∈ p.boxes ++ p.rows, ∃ th, L.get id = some th ∧ th.open_ = true ∧ H2 id = some th ∧ id < nx := by
        intro id hid
        obtain ⟨i, hi⟩ := List.mem_iff_getElem?.1 ((mem id).2 hid)
        obtain ⟨th, g1, g2⟩ := hP.was i id hi
        exact ⟨th, g1, g2, (fz.agree.lt (by rw [hget id hid]; exact g1)).2, (ha.lt g1).1⟩
      -- blocks handed over
      let HB : Nat → Prop := fun b => ∃ id th l, id ∈ p.boxes ++ p.rows ∧ H2 id = some th ∧ c2.μ id = some l ∧ th.open_ = true ∧ 0 < l.K ∧ l.b = b
      have HBo : ∀ b, HB b → OpenB c2 H2 b := by
        rintro b ⟨id, th, l, g1, g2, g3, g4, g5, g6⟩
        exact ⟨id, th, l, g2, g3, g4, g5, g6⟩
      have HBf : ∀ b, HB b → ¬ c2.Sf b ∧ ¬ c2.So b ∧ b < w.heap.size := by
        rintro b ⟨id, th, l, g1, g2, g3, g4, g5, rfl⟩
        exact h2.free id th l g2 g3 g4 g5
      let c0 : Cx := { μ := fun i => (ids[i]?).bind c.μ, A := fun i => i < ids.length, Sf := c2.Sf, So := fun b => b < w.heap.size ∧ ¬ HB b }
      have rest3 : ∀ i th l, H2 i = some th → ¬ i ∈ p.boxes ++ p.rows → c2.μ i = some l → 0 < l.K → l.b < w.heap.size ∧ ¬ HB l.b := by
        intro i th l g1 g2 g3 g4
        cases ho : th.open_ with
        | true =>
          refine ⟨(h2.free i th l g1 g3 ho g4).2.2, ?_⟩
          rintro ⟨id, th', l', k1, k2, k3, k4, k5, k6⟩
          have hne : i ≠ id := fun e => g2 (e ▸ k1)
          exact h2.apart i id th th' l l' hne g1 k2 g3 k3 ho k4 g4 k5 k6.symm
        | false =>
          have hS := h2.rest i th l g1 g3 ho g4
          exact ⟨h2.old _ (.inl hS), fun hb => (HBf _ hb).1 hS⟩
      have hV : View c c0 L (p.boxes ++ p.rows) p.rest := by
        refine ⟨fz.step.ext.Sf, fun b hb => ⟨h.old b (.inr hb), fun hB => (HBf b hB).2.1 (fz.step.ext.So b hb)⟩, fun id th l g1 g2 g3 g4 g5 => ?_, fun id th l g1 g2 g3 g4 g5 g6 => ?_⟩
        · obtain ⟨k1, k2, k3⟩ := hL.free id th l g1 g3 g4 g5
          refine ⟨k3, ?_⟩
          rintro ⟨id', th', l', q1, q2, q3, q4, q5, q6⟩
          obtain ⟨th2, y1, y2, y3, y4⟩ := was id' q1
          have hne : id ≠ id' := fun e => g2 (e ▸ q1)
          rw [fz.μ] at q3
          exact hL.apart id id' th th2 l l' hne g1 y1 g3 q3 g4 y2 g5 q5 q6.symm
        · rcases fz.rested id g2 th l g1 g4 g5 g6 with ⟨cs, hb⟩ | hs
          · exact absurd hb (g3 cs)
          · exact hs
      have hN : Named c c0 0 ids := fun i id hi => by
        simp only [Nat.zero_add]
        exact ⟨(List.getElem?_eq_some_iff.1 hi).1, by show (ids[i]?).bind c.μ = _; rw [hi]; rfl⟩
      have thing : ∀ i th', inH p.args i = some th' → ∃ id th, ids[i]? = some id ∧ id ∈ p.boxes ++ p.rows ∧ L.get id = some th ∧ H2 id = some th ∧ th.open_ = true ∧ th'.open_ = true ∧ c0.μ i = c.μ id ∧ ∀ l, c.μ id = some l → Lies w c l th → Lies w c0 l th' := by
        intro i th' hi
        have hlt : i < ids.length := by rw [← hP.len]; exact (List.getElem?_eq_some_iff.1 hi).1
        have hid : ids[i]? = some ids[i] := List.getElem?_eq_getElem hlt
        have hm := (mem _).1 (List.mem_of_getElem? hid)
        obtain ⟨th, y1, y2, y3, _⟩ := was _ hm
        obtain ⟨z1, z2⟩ := hP.lies i _ th th' hid y1 hi
        exact ⟨_, th, hid, hm, y1, y3, y2, z1, (by show (ids[i]?).bind c.μ = _; rw [hid]; rfl), z2 c0 _ _ hV hN (fun id hid hh => notread id hh hid) fun _ hi => hi⟩
      have hIn : In w c0 p.args us.toList := by
        refine ⟨⟨fun i th' hi => ?_, fun i hi => ?_, fun i th' l hi hm ho hK => ?_, fun i th' l hi hm ho hK => ?_, fun i j th1 th2 l1 l2 hij hi hj hmi hmj o1 o2 k1 k2 => ?_, fun b hb => ?_⟩, fun i => ?_, hP.vals c0 _ _ hV hN (fun id hid hh => notread id hh hid) fun _ hi => hi⟩
        · obtain ⟨id, th, g1, g2, g3, g4, g5, g6, g7, g8⟩ := thing i th' hi
          obtain ⟨l, y1, y2⟩ := hL.at_ id th g3
          exact ⟨l, by rw [g7]; exact y1, g8 l y1 y2⟩
        · have : ¬ i < ids.length := hi
          exact List.getElem?_eq_none (by rw [hP.len]; omega)
        · obtain ⟨id, th, g1, g2, g3, g4, g5, g6, g7, g8⟩ := thing i th' hi
          rw [g7] at hm
          have hm2 : c2.μ id = some l := by rw [fz.μ]; exact hm
          obtain ⟨y1, y2, y3⟩ := h2.free id th l g4 hm2 g5 hK
          exact ⟨y1, fun hs => hs.2 ⟨id, th, l, g2, g4, hm2, g5, hK, rfl⟩, y3⟩
        · obtain ⟨id, th, g1, g2, g3, g4, g5, g6, g7, g8⟩ := thing i th' hi
          rw [g6] at ho; cases ho
        · obtain ⟨id, th, g1, g2, g3, g4, g5, g6, g7, g8⟩ := thing i th1 hi
          obtain ⟨id', th', g1', g2', g3', g4', g5', g6', g7', g8'⟩ := thing j th2 hj
          rw [g7] at hmi
          rw [g7'] at hmj
          have hne : id ≠ id' := by
            intro e
            subst e
            obtain ⟨y1, y2⟩ := List.getElem?_eq_some_iff.1 g1
            obtain ⟨y3, y4⟩ := List.getElem?_eq_some_iff.1 g1'
            exact hij ((List.getElem_inj ndI).1 (y2.trans y4.symm))
          exact hL.apart id id' th th' l1 l2 hne g3 g3' hmi hmj g5 g5' k1 k2
        · rcases hb with hb | hb
          · exact h2.old b (.inl hb)
          · exact hb.1
        · rw [hP.len]
      refine ⟨p.args, res, c0, hres, hIn, ?_⟩
      rintro u w' ⟨hlen, hB⟩
      have hbn : ∀ i ∈ p.boxes, i < nx := fun i hi => by
        obtain ⟨_, _, _, _, y⟩ := was i (List.mem_append_left _ hi)
        exact y
      have hrn : ∀ i ∈ p.rows, i < nx := fun i hi => by
        obtain ⟨_, _, _, _, y⟩ := was i (List.mem_append_right _ hi)
        exact y
      have ndB : p.boxes.Nodup := (List.nodup_append.1 hnd).1
      obtain ⟨c1, T, hμ, hA, hRu⟩ := hB nx p.boxes (by rw [hP.blen]) ndB hbn
      let ts := outT res nx
      let css := (thawLs res.2 nx).1
      have hcl : p.boxes.length = css.length := by rw [thawLs_len, hlen, hP.blen]
      have hr1 : r = ((thaw res.1 (nx + (thawLs res.2 nx).2.length)).1, putAll (putBoxes (kill (freeze L p.rest) p.rows) p.boxes css) nx ts, nx + ts.length, p.boxes ++ p.rows) := hr.symm
      subst hr1
      simp only at hfree
      have tsO : AllT Thing.open_ ts := (thawLs_open _ _).append (thaw_open _ _)
      have tsN : AllT Thing.noOld ts := (thawLs_no no2 _).2.append (thaw_no no1 _).2
      have cssN := (thawLs_no no2 nx).1
      have cssO := thawLs_open1 no2 nx
      let c' : Cx := { μ := fun i => if nx ≤ i ∧ i < nx + ts.length then c1.μ i else c2.μ i, A := fun i => c2.A i ∨ (nx ≤ i ∧ i < nx + ts.length), Sf := c1.Sf, So := c2.So }
      let H' : HeapF := fun i => if nx ≤ i ∧ i < nx + ts.length then ts[i - nx]? else match boxAt p.boxes css i with | some t => some t | none => if i ∈ p.rows then none else H2 i
      have μin : ∀ i, nx ≤ i ∧ i < nx + ts.length → c'.μ i = c1.μ i := fun i hi => by show (if _ then _ else _) = _; rw [if_pos hi]
      have μout : ∀ i, ¬ (nx ≤ i ∧ i < nx + ts.length) → c'.μ i = c2.μ i := fun i hi => by show (if _ then _ else _) = _; rw [if_neg hi]
      have Hin : ∀ i, nx ≤ i ∧ i < nx + ts.length → H' i = ts[i - nx]? := fun i hi => by show (if _ then _ else _) = _; rw [if_pos hi]
      have Hout : ∀ i, ¬ (nx ≤ i ∧ i < nx + ts.length) → H' i = (match boxAt p.boxes css i with | some t => some t | none => if i ∈ p.rows then none else H2 i) := fun i hi => by show (if _ then _ else _) = _; rw [if_neg hi]
      have bout : ∀ i ∈ p.boxes, ¬ (nx ≤ i ∧ i < nx + ts.length) := fun i hi => by have := hbn i hi; omega
      have boxμ : ∀ i ∈ p.boxes, c1.μ i = c2.μ i := by
        intro i hi
        obtain ⟨j, hj⟩ := List.mem_iff_getElem?.1 hi
        have hjl : j < (enterA p.args 0).2.2.length := by rw [hP.blen]; exact (List.getElem?_eq_some_iff.1 hj).1
        have hb := List.getElem?_eq_getElem hjl
        obtain ⟨_, g2⟩ := hP.box j _ i hb hj
        rw [hμ j _ i hb hj, fz.μ]
        show (ids[_]?).bind c.μ = _
        rw [Nat.sub_zero] at g2
        rw [g2]
        rfl
      have A2 : ∀ i th, H2 i = some th → c2.A i := by
        intro i th hi
        rcases Classical.em (c2.A i) with hA | hA
        · exact hA
        · rw [h2.num i hA] at hi; cases hi
      have boxA : ∀ i ∈ p.boxes, c2.A i := fun i hi => by
        obtain ⟨th, _, _, g, _⟩ := was i (List.mem_append_left _ hi)
        exact A2 i th g
      have E1 : ExtN c1 c' := by
        refine ⟨fun id hid => ?_, fun id l hid hl => ?_, fun b hb => hb⟩
        · rcases (hA id).1 hid with hb | hr'
          · exact .inl (boxA id hb)
          · exact .inr hr'
        · rcases (hA id).1 hid with hb | hr'
          · rw [μout id (bout id hb), ← boxμ id hb] at hl; exact hl
          · rw [μin id hr'] at hl; exact hl
      have E2 : Ext c2 c' := by
        refine ⟨fun id hid => .inl hid, fun id l hid hl => ?_, T.Sf, fun b hb => hb⟩
        by_cases hr' : nx ≤ id ∧ id < nx + ts.length
        · rw [fz.A] at hid
          exact absurd hid (hfree id hr'.1 hr'.2)
        · rw [μout id hr'] at hl; exact hl
      have OB : ∀ b, OpenB c0 (inH p.args) b → HB b := by
        rintro b ⟨i, th', l, g1, g2, g3, g4, rfl⟩
        obtain ⟨id, th, y1, y2, y3, y4, y5, y6, y7, y8⟩ := thing i th' g1
        rw [y7] at g2
        exact ⟨id, th, l, y2, y4, by rw [fz.μ]; exact g2, y5, g4, rfl⟩
      have K2 : Keep c2 w w' := fun b hb => T.same b (h2.old b hb) fun ho => by
        obtain ⟨y1, y2, _⟩ := HBf b (OB b ho)
        exact hb.elim y1 y2
      -- what stands in the new heap
      have cases3 : ∀ i th, H' i = some th → (outH nx p.boxes css ts i = some th ∧ c'.μ i = c1.μ i ∧ th.noOld = true ∧ th.open_ = true) ∨ (H2 i = some th ∧ ¬ i ∈ p.boxes ++ p.rows ∧ c'.μ i = c2.μ i) := by
        intro i th hi
        by_cases hr' : nx ≤ i ∧ i < nx + ts.length
        · rw [Hin i hr'] at hi
          left
          have hm := List.mem_of_getElem? hi
          exact ⟨by rw [outH, if_pos hr'.1]; exact hi, μin i hr', tsN th hm, tsO th hm⟩
        · rw [Hout i hr'] at hi
          cases hbx : boxAt p.boxes css i with
          | some cs =>
            rw [hbx] at hi
            cases hi
            have hm := boxAt_mem hbx
            left
            refine ⟨?_, by rw [μout i hr', boxμ i hm], cssN _ (boxAt_from hbx), cssO _ (boxAt_from hbx)⟩
            rw [outH, if_neg (by have := hbn i hm; omega), hbx]
          | none =>
            rw [hbx] at hi
            simp only at hi
            split at hi
            · cases hi
            · rename_i hrow
              right
              refine ⟨hi, fun hm => ?_, μout i hr'⟩
              rcases List.mem_append.1 hm with hm | hm
              · obtain ⟨cs, hcs⟩ := boxAt_some hcl hm
                rw [hbx] at hcs
                cases hcs
              · exact hrow hm
      have So1 : ∀ b, c2.So b → c1.So b := fun b hb => T.So b ⟨h2.old b (.inr hb), fun hB => (HBf b hB).2.1 hb⟩
      have hH : Heaps w' c' H' := by
        refine ⟨fun i th hi => ?_, fun i hi => ?_, fun i th l hi hm ho hK => ?_, fun i th l hi hm ho hK => ?_, fun i j th1 th2 l1 l2 hij hi hj hmi hmj o1 o2 k1 k2 => ?_, fun b hb => ?_⟩
        · rcases cases3 i th hi with ⟨g1, g2, g3, g4⟩ | ⟨g1, g2, g3⟩
          · obtain ⟨l, y1, y2⟩ := T.heaps.at_ i th g1
            exact ⟨l, by rw [g2]; exact y1, y2.noOld E1 g3⟩
          · obtain ⟨l, y1, y2⟩ := h2.at_ i th g1
            refine ⟨l, by rw [g3]; exact y1, y2.ext E2 K2 fun hp => ?_⟩
            obtain ⟨z1, z2⟩ := rest3 i th l g1 g2 y1 hp
            exact T.same _ z1 fun ho => z2 (OB _ ho)
        · have hi1 : ¬ c2.A i := fun hA' => hi (.inl hA')
          have hi2 : ¬ (nx ≤ i ∧ i < nx + ts.length) := fun hr' => hi (.inr hr')
          rw [Hout i hi2, boxAt_none (fun hm => hi1 (boxA i hm))]
          simp only
          split
          · rfl
          · exact h2.num i hi1
        · rcases cases3 i th hi with ⟨g1, g2, g3, g4⟩ | ⟨g1, g2, g3⟩
          · rw [g2] at hm
            obtain ⟨y1, y2, y3⟩ := T.heaps.free i th l g1 hm ho hK
            exact ⟨y1, fun hs => y2 (So1 _ hs), y3⟩
          · rw [g3] at hm
            obtain ⟨y1, y2, y3⟩ := h2.free i th l g1 hm ho hK
            obtain ⟨z1, z2⟩ := rest3 i th l g1 g2 hm hK
            refine ⟨fun hs => ?_, y2, by have := T.size; omega⟩
            rcases T.sf _ hs with h' | h' | h'
            · exact y1 h'
            · exact z2 (OB _ h')
            · omega
        · rcases cases3 i th hi with ⟨g1, g2, g3, g4⟩ | ⟨g1, g2, g3⟩
          · rw [g4] at ho; cases ho
          · rw [g3] at hm
            exact T.Sf _ (h2.rest i th l g1 hm ho hK)
        · rcases cases3 i th1 hi with ⟨g1, g2, g3, g4⟩ | ⟨g1, g2, g3⟩
          · rw [g2] at hmi
            rcases cases3 j th2 hj with ⟨g1', g2', g3', g4'⟩ | ⟨g1', g2', g3'⟩
            · rw [g2'] at hmj
              exact T.heaps.apart i j th1 th2 l1 l2 hij g1 g1' hmi hmj o1 o2 k1 k2
            · rw [g3'] at hmj
              obtain ⟨z1, z2⟩ := rest3 j th2 l2 g1' g2' hmj k2
              intro e
              rcases T.opens l1.b ⟨i, th1, l1, g1, hmi, o1, k1, rfl⟩ with h' | h'
              · exact z2 (e ▸ OB _ h')
              · omega
          · rw [g3] at hmi
            rcases cases3 j th2 hj with ⟨g1', g2', g3', g4'⟩ | ⟨g1', g2', g3'⟩
            · rw [g2'] at hmj
              obtain ⟨z1, z2⟩ := rest3 i th1 l1 g1 g2 hmi k1
              intro e
              rcases T.opens l2.b ⟨j, th2, l2, g1', hmj, o2, k2, rfl⟩ with h' | h'
              · exact z2 (e ▸ OB _ h')
              · omega
            · rw [g3'] at hmj
              exact h2.apart i j th1 th2 l1 l2 hij g1 g1' hmi hmj o1 o2 k1 k2
        · rcases hb with hb | hb
          · exact T.heaps.old b (.inl hb)
          · have := h2.old b (.inr hb)
            have := T.size
            omega
      have hstep : Step w c2 H2 w' c' H' := by
        refine ⟨hH, E2, T.size, fun b hb hno => T.same b hb fun ho => hno (HBo b (OB b ho)), ?_, fun b hb => ?_, fun b hb => hb, T.os, T.tape, T.output⟩
        · rintro b ⟨i, th, l, hi, hm, ho, hK, rfl⟩
          rcases cases3 i th hi with ⟨g1, g2, g3, g4⟩ | ⟨g1, g2, g3⟩
          · rw [g2] at hm
            rcases T.opens l.b ⟨i, th, l, g1, hm, ho, hK, rfl⟩ with h' | h'
            · exact .inl (HBo _ (OB _ h'))
            · exact .inr h'
          · rw [g3] at hm
            exact .inl ⟨i, th, l, g1, hm, ho, hK, rfl⟩
        · rcases T.sf b hb with h' | h' | h'
          · exact .inl h'
          · exact .inr (.inl (HBo _ (OB _ h')))
          · exact .inr (.inr h')
      refine ⟨c', H', ⟨fz.step.trans hstep, ⟨fun i hi => ?_, fun i hi => ?_⟩, fun i hi => ?_, fun i => ?_, by simp, fun i th hn hi => ?_⟩, hRu.noOld E1 (thaw_no no1 _).1⟩
      · simp only at hi ⊢
        rw [putAll_get, putBoxes_get _ _ _ _ ndB, kill_get]
        by_cases hr' : nx ≤ i ∧ i < nx + ts.length
        · rw [if_pos hr', Hin i hr']
        · rw [if_neg hr', Hout i hr']
          cases boxAt p.boxes css i with
          | some cs => rfl
          | none =>
            simp only
            split
            · rfl
            · exact fz.agree.low i (by omega)
      · simp only at hi ⊢
        rw [putAll_get, if_neg (by omega), putBoxes_get _ _ _ _ ndB, kill_get, boxAt_none (fun hm => by have := hbn i hm; omega)]
        simp only
        split
        · rfl
        · exact fz.agree.top i (by omega)
      · simp only at hi
        rw [Hout i (by omega), boxAt_none (fun hm => by have := hbn i hm; omega)]
        simp only
        rw [if_neg (fun hm => by have := hrn i hm; omega)]
        exact fz.top i (by omega)
      · show c2.A i ∨ _ ↔ _
        rw [fz.A]
      · simp only at hn ⊢
        have hb : ¬ i ∈ p.boxes := fun hm => hn (List.mem_append_left _ hm)
        have hrr : ¬ i ∈ p.rows := fun hm => hn (List.mem_append_right _ hm)
        have hlt := (ha.lt hi).1
        rw [putAll_get, if_neg (by omega), putBoxes_get _ _ _ _ ndB, kill_get, boxAt_none hb]
        simp only [hrr, if_false]
        exact freeze_kept p.rest L i th hi
    · cases hr
  · cases hr
end
end Go.Fm
end

section
/- FM: results are handed back. -/
set_option autoImplicit false
namespace Go.Fm

section
variable {P : Program} {w : World} {c : Cx} {L : Heap}

/-- Things that are handed on, as the other frame has them. -/
structure Gone (w : World) (c : Cx) (L : Heap) (n : Nat) (ids : List Nat) (ts : List Thing) (rd : List Nat) : Prop where
  len : ts.length = ids.length
  each : ∀ (i id : Nat), ids[i]? = some id → ∃ th th', L.get id = some th ∧ th.open_ = true ∧ ts[i]? = some th' ∧ th'.open_ = true ∧
    ∀ c0 hand rest l, View c c0 L hand rest → Named c c0 n ids → (∀ id ∈ rd, ¬ id ∈ hand ∧ id ∈ rest) → c.μ id = some l → Lies w c l th → Lies w c0 l th'

theorem Same.gone {ids : List Nat} {ts : List Thing} (h : Same L ids ts) (n : Nat) (rd : List Nat) : Gone w c L n ids ts rd :=
  ⟨h.1, fun i id hi => by
    obtain ⟨th, th', h1, h2, h3, h4, h5⟩ := h.2 i id hi
    exact ⟨th, th', h1, h3, h2, h5.open_ h3, fun c0 hand rest l hV _ _ _ hl => (h5.lies hl).other (h5.clean h4) hV.Sf hV.So⟩⟩

theorem Gone.append {n : Nat} {ids ids' rd rd' : List Nat} {ts ts' : List Thing} (h : Gone w c L n ids ts rd) (k : Gone w c L (n + ids.length) ids' ts' rd') : Gone w c L n (ids ++ ids') (ts ++ ts') (rd ++ rd') := by
  refine ⟨by simp [h.len, k.len], fun i id hi => ?_⟩
  rcases Nat.lt_or_ge i ids.length with hlt | hge
  · rw [List.getElem?_append_left hlt] at hi
    obtain ⟨th, th', h1, h2, h3, h4, h5⟩ := h.each i id hi
    exact ⟨th, th', h1, h2, by rw [List.getElem?_append_left (by rw [h.len]; exact hlt)]; exact h3, h4, fun c0 hand rest l hV hN hr => h5 c0 hand rest l hV hN.left fun id hi => hr id (List.mem_append_left _ hi)⟩
  · rw [List.getElem?_append_right hge] at hi
    obtain ⟨th, th', h1, h2, h3, h4, h5⟩ := k.each _ id hi
    exact ⟨th, th', h1, h2, by rw [List.getElem?_append_right (by rw [h.len]; exact hge), h.len]; exact h3, h4, fun c0 hand rest l hV hN hr => h5 c0 hand rest l hV hN.right fun id hi => hr id (List.mem_append_right _ hi)⟩

theorem dr_agg {H : HeapF} {fl : Fl} {d : Nat} {v : V} {cs' : List V} (h : dr H fl d v = some (.agg cs')) : ∃ cs d', v = .agg cs ∧ d = d' + 1 ∧ mapO (dr H fl d') cs = some cs' := by
  cases d with
  | zero => cases h
  | succ d =>
    cases v <;> simp only [dr] at h <;> try (cases h; done)
    case sl id sz off len =>
      split at h
      · split at h
        · obtain ⟨_, _, he⟩ := Option.map_eq_some_iff.1 h; cases he
        · cases h
      · cases h
    case pt id idx sub =>
      split at h
      · split at h
        · obtain ⟨_, _, he⟩ := Option.map_eq_some_iff.1 h; cases he
        · cases h
      · cases h
    case mp id =>
      split at h
      · cases h
      · cases h
    case arr f sz es => cases f <;> simp only [Option.some.injEq, reduceCtorEq] at h
    case map f es => cases f <;> simp only [Option.some.injEq, reduceCtorEq] at h
    case fn f a b =>
      obtain ⟨_, _, h⟩ := Option.bind_eq_some_iff.1 h
      obtain ⟨_, _, he⟩ := Option.map_eq_some_iff.1 h
      cases he
    case agg cs =>
      obtain ⟨cs2, h1, he⟩ := Option.map_eq_some_iff.1 h
      cases he
      exact ⟨cs, d, rfl, rfl, h1⟩
    case tup cs =>
      obtain ⟨_, _, he⟩ := Option.map_eq_some_iff.1 h
      cases he

theorem mapO_notown {H : HeapF} {fl : Fl} (hf : fl ≠ .own) {d : Nat} : ∀ {cs cs' : List V}, mapO (dr H fl d) cs = some cs' → ∀ n, thawL cs' n = (cs', [])
  | [], cs', h, n => by cases h; rfl
  | v :: cs, cs', h, n => by
    simp only [mapO, Option.bind_eq_some_iff] at h
    obtain ⟨y, hy, ys, hys, he⟩ := h
    cases he
    have e1 := (dr_notown hf hy n).1
    simp only [thawL, e1, List.length_nil, Nat.add_zero, mapO_notown hf hys n, List.nil_append]

/-- Laid open, nothing is named. -/
theorem thawV_dr {H : HeapF} {fl : Fl} (hf : fl ≠ .own) {d : Nat} {v v' : V} (h : dr H fl d v = some v') (n : Nat) : thawV v' n = (v', []) := by
  obtain ⟨e1, e2⟩ := dr_notown hf h n
  unfold thawV
  split
  · rename_i cs
    obtain ⟨_, _, _, _, hm⟩ := dr_agg h
    rw [mapO_notown hf hm n]
  · exact absurd rfl (e2 _)
  · exact e1

theorem thawV_ownC {v : V} {q : V × List Nat × List Nat} (hq : ownC L v = some q) (n : Nat) : thawV q.1 n = thaw1 q.1 n := by
  have plain : (Fm.dr L.get .fresh deep v).map (fun v' => (v', ([] : List Nat), refs L.get deep v)) = some q → thawV q.1 n = thaw1 q.1 n := by
    intro hq
    obtain ⟨v', hd, rfl⟩ := Option.map_eq_some_iff.1 hq
    rw [thawV_dr (by simp) hd n, (dr_notown (by simp) hd n).1]
  unfold ownC at hq
  split at hq
  · split at hq
    · split at hq
      · cases hq; rfl
      · exact plain hq
    · exact plain hq
  · split at hq
    · cases hq; rfl
    · exact plain hq
  · exact plain hq

theorem ownBox_sound (h : Heaps w c L.get) {id : Nat} {cs : List V} (hth : L.get id = some (.box cs)) {q : List V × List Nat × List Nat} (hq : ownL L cs = some q) (n : Nat) :
    Gone w c L n q.2.1 (thawL q.1 n).2 q.2.2 ∧ ∀ c0 hand rest l, View c c0 L hand rest → Named c c0 n q.2.1 → (∀ id ∈ q.2.2, ¬ id ∈ hand ∧ id ∈ rest) → c.μ id = some l → Lies w c0 l (.box (thawL q.1 n).1) := by
  obtain ⟨l, hml, hLies⟩ := h.at_ id _ hth
  obtain ⟨hK, C, t, hC, hsz, hRs, hcell⟩ := box_rs hLies
  obtain ⟨s1, s2⟩ := ownL_sound h hRs hq n
  obtain ⟨c1, c2⟩ := ownL_cell hq hcell n
  refine ⟨s1.gone n _, fun c0 hand rest l' hV hN hr hm => ?_⟩
  rw [hml] at hm
  cases hm
  exact box_lies hK hC (by rw [c2]; exact hsz) (by rw [c2]; exact s2 c0 hand rest hV hN hr) c1

theorem ownV_sound (h : Heaps w c L.get) {own : Bool} {v : V} {u : Value} (hR : R w c v u) {q : V × List Nat × List Nat} (hq : ownV L own v = some q) (n : Nat) :
    Gone w c L n q.2.1 (thawV q.1 n).2 q.2.2 ∧ ∀ c0 hand rest, View c c0 L hand rest → Named c c0 n q.2.1 → (∀ id ∈ q.2.2, ¬ id ∈ hand ∧ id ∈ rest) → R w c0 (thawV q.1 n).1 u := by
  unfold ownV at hq
  split at hq
  · rename_i cs
    split at hq
    · obtain ⟨q', hq', rfl⟩ := Option.map_eq_some_iff.1 hq
      obtain ⟨vs, rfl, hvs, hcc⟩ := hR.agg_inv
      obtain ⟨s1, s2⟩ := ownL_sound h hvs hq' n
      have hcell : cs.all isCell = true := by
        rw [List.all_eq_true]
        intro x hx
        obtain ⟨j, hj⟩ := List.mem_iff_getElem?.1 hx
        exact hcc j x hj
      obtain ⟨c1, _⟩ := ownL_cell hq' hcell n
      refine ⟨s1.gone n _, fun c0 hand rest hV hN hr => ?_⟩
      have := R.agg_mk (s2 c0 hand rest hV hN hr) (allCell_get c1)
      simpa [thawV] using this
    · obtain ⟨v', hd, rfl⟩ := Option.map_eq_some_iff.1 hq
      simp only [thawV_dr (by simp : Fl.fresh ≠ .own) hd n]
      exact ⟨Same.nil.gone n _, fun c0 hand rest hV _ hid => (hV.dr h (by simp) hR hd (fun id hi => (hid id hi).1) fun _ id hi => (hid id hi).2).up⟩
  · rename_i id idx sub
    split at hq
    · rename_i cs hth
      split at hq
      · rename_i hc
        obtain ⟨rfl, rfl⟩ := hc
        obtain ⟨q', hq', rfl⟩ := Option.map_eq_some_iff.1 hq
        obtain ⟨s1, s2⟩ := ownBox_sound h hth hq' n
        have sl := s1.len
        have e1 : thawV (.rw q'.1) n = (.pt (n + (thawL q'.1 n).2.length) 0 0, (thawL q'.1 n).2 ++ [.box (thawL q'.1 n).1]) := rfl
        have hlast : (q'.2.1 ++ [id])[q'.2.1.length]? = some id := by rw [List.getElem?_append_right (Nat.le_refl _), Nat.sub_self]; rfl
        simp only [e1]
        refine ⟨⟨by simp [sl], fun i id' hi => ?_⟩, fun c0 hand rest hV hN hr => ?_⟩
        · rcases Nat.lt_or_ge i q'.2.1.length with hlt | hge
          · rw [List.getElem?_append_left hlt] at hi
            obtain ⟨th, th', h1, h2, h3, h4, h5⟩ := s1.each i id' hi
            exact ⟨th, th', h1, h2, by rw [List.getElem?_append_left (by omega)]; exact h3, h4, fun c0 hand rest l hV hN hr => h5 c0 hand rest l hV hN.left hr⟩
          · have : i = q'.2.1.length := by have := (List.getElem?_eq_some_iff.1 hi).1; simp at this; omega
            subst this
            rw [hlast] at hi
            cases hi
            exact ⟨_, _, hth, rfl, by rw [List.getElem?_append_right (by omega), sl, Nat.sub_self]; rfl, rfl, fun c0 hand rest l hV hN hr hm _ => s2 c0 hand rest l hV hN.left hr hm⟩
        · obtain ⟨n2, n3⟩ := hN q'.2.1.length id hlast
          cases hR with
          | pt hpt =>
            obtain ⟨hA, b, rfl, hb⟩ := hpt
            rw [sl]
            exact .pt ⟨n2, b, rfl, fun l' hl' => hb l' (by rw [← n3]; exact hl')⟩
      · cases hq
    · cases hq
  · split at hq
    · rw [thawV_ownC hq n]
      obtain ⟨s1, s2⟩ := ownC_sound h hR hq n
      exact ⟨s1.gone n _, s2⟩
    · obtain ⟨v', hd, rfl⟩ := Option.map_eq_some_iff.1 hq
      simp only [thawV_dr (by simp : Fl.fresh ≠ .own) hd n]
      exact ⟨Same.nil.gone n _, fun c0 hand rest hV _ hid => (hV.dr h (by simp) hR hd (fun id hi => (hid id hi).1) fun _ id hi => (hid id hi).2).up⟩

theorem ownVs_sound (h : Heaps w c L.get) {own : Bool} : ∀ {vs : List V} {us : List Value} {q : List V × List Nat × List Nat}, Rs w c vs us → ownVs L own vs = some q → ∀ n : Nat,
    Gone w c L n q.2.1 (thawVs q.1 n).2 q.2.2 ∧ q.1.length = vs.length ∧ ∀ c0 hand rest, View c c0 L hand rest → Named c c0 n q.2.1 → (∀ id ∈ q.2.2, ¬ id ∈ hand ∧ id ∈ rest) → Rs w c0 (thawVs q.1 n).1 us
  | [], [], q, _, hq, n => by
    cases hq
    exact ⟨Same.nil.gone n _, rfl, fun c0 _ _ _ _ _ => Rs.nil _ _⟩
  | v :: cs, u :: us, q, hR, hq, n => by
    simp only [ownVs, Option.bind_eq_some_iff] at hq
    obtain ⟨r, hr, q', hq', he⟩ := hq
    cases he
    obtain ⟨s1, s2⟩ := ownV_sound h hR.head hr n
    obtain ⟨t1, t0, t2⟩ := ownVs_sound h hR.tail hq' (n + (thawV r.1 n).2.length)
    simp only [thawVs]
    rw [s1.len] at t1 t2 ⊢
    exact ⟨s1.append t1, by simp [t0], fun c0 hand rest hV hN hid => Rs.cons (s2 c0 hand rest hV hN.left fun id hi => hid id (List.mem_append_left _ hi)) (t2 c0 hand rest hV hN.right fun id hi => hid id (List.mem_append_right _ hi))⟩
  | [], _ :: _, _, hR, _, _ => by have := hR.1; simp at this
  | _ :: _, [], _, hR, _, _ => by have := hR.1; simp at this

theorem backs_sound (h : Heaps w c L.get) : ∀ {bs : List Nat} {q : List Thing × List Nat × List Nat}, backs L bs = some q → ∀ n : Nat,
    Gone w c L n q.2.1 (thawLs q.1 n).2 q.2.2 ∧ q.1.length = bs.length ∧ ∀ (j b : Nat) (t' : Thing), bs[j]? = some b → (thawLs q.1 n).1[j]? = some t' → (∃ th, L.get b = some th ∧ th.open_ = true) ∧ t'.open_ = true ∧
      ∀ c0 hand rest l, View c c0 L hand rest → Named c c0 n q.2.1 → (∀ id ∈ q.2.2, ¬ id ∈ hand ∧ id ∈ rest) → c.μ b = some l → Lies w c0 l t'
  | [], q, hq, n => by
    cases hq
    exact ⟨Same.nil.gone n _, rfl, fun j b cs' hj => by simp at hj⟩
  | b :: bs, q, hq, n => by
    simp only [backs] at hq
    split at hq
    · rename_i cs hth
      simp only [Option.bind_eq_some_iff] at hq
      obtain ⟨r, hr, q', hq', he⟩ := hq
      cases he
      obtain ⟨s1, s2⟩ := ownBox_sound h hth hr n
      obtain ⟨t1, t0, t2⟩ := backs_sound h hq' (n + (thawL r.1 n).2.length)
      simp only [thawLs, thawT]
      rw [s1.len] at t1 t2 ⊢
      refine ⟨s1.append t1, by simp [t0], fun j b' cs' hj hc' => ?_⟩
      cases j with
      | zero =>
        simp at hj hc'
        subst hj
        subst hc'
        exact ⟨⟨_, hth, rfl⟩, rfl, fun c0 hand rest l hV hN hr hm => s2 c0 hand rest l hV hN.left (fun id hi => hr id (List.mem_append_left _ hi)) hm⟩
      | succ j =>
        simp at hj hc'
        obtain ⟨g1, g3, g2⟩ := t2 j b' cs' hj hc'
        exact ⟨g1, g3, fun c0 hand rest l hV hN hr hm => g2 c0 hand rest l hV hN.right (fun id hi => hr id (List.mem_append_right _ hi)) hm⟩
    · rename_i sz es hth
      obtain ⟨q', hq', he⟩ := Option.bind_eq_some_iff.1 hq
      cases he
      obtain ⟨t1, t0, t2⟩ := backs_sound h hq' n
      simp only [thawLs, thawT, List.length_nil, Nat.add_zero, List.nil_append]
      refine ⟨t1, by simp [t0], fun j b' cs' hj hc' => ?_⟩
      cases j with
      | zero =>
        simp at hj hc'
        subst hj
        subst hc'
        obtain ⟨l0, z1, z2⟩ := h.at_ b _ hth
        refine ⟨⟨_, hth, rfl⟩, rfl, fun c0 hand rest l hV hN hr hm => ?_⟩
        rw [z1] at hm
        cases hm
        exact z2.other rfl hV.Sf hV.So
      | succ j =>
        simp at hj hc'
        exact t2 j b' cs' hj hc'
    · cases hq
end
end Go.Fm
end

section
/- FM: a frame ends. -/
set_option autoImplicit false
namespace Go.Fm

def tupled (us : List Value) : Value := if h : us.length = 1 then us[0] else .tuple us.toArray

theorem single_thaw {vs : List V} {v : V} (h : single vs = some v) (m : Nat) : (thaw v m).2 = (thawVs vs m).2 ∧ ∀ {w : World} {c : Cx} {us : List Value}, Rs w c (thawVs vs m).1 us → R w c (thaw v m).1 (tupled us) := by
  have tup : ∀ vs : List V, vs.length ≠ 1 → (thaw (.tup vs) m).2 = (thawVs vs m).2 ∧ ∀ {w : World} {c : Cx} {us : List Value}, Rs w c (thawVs vs m).1 us → R w c (thaw (.tup vs) m).1 (tupled us) := by
    intro vs hl
    refine ⟨rfl, fun {w c us} hR => ?_⟩
    have hlen : ∀ (vs : List V) (m : Nat), (thawVs vs m).1.length = vs.length := by
      intro vs
      induction vs with
      | nil => intro m; rfl
      | cons v vs ih => intro m; simp [thawVs, ih]
    have h1 := hR.1
    rw [hlen] at h1
    unfold tupled
    rw [dif_neg (by omega)]
    exact R.tup_mk hR
  cases vs with
  | nil => cases h; exact tup [] (by simp)
  | cons x xs =>
    cases xs with
    | nil =>
      have hx : v = x ∧ ∀ ys, x ≠ .tup ys := by
        cases x <;> simp only [single, Option.some.injEq, reduceCtorEq] at h <;> exact ⟨h.symm, fun _ => V.noConfusion⟩
      obtain ⟨rfl, hnt⟩ := hx
      have e1 : thaw v m = thawV v m := by
        unfold thaw
        split
        · exact absurd rfl (hnt _)
        · rfl
      rw [e1]
      refine ⟨by simp [thawVs], fun {w c us} hR => ?_⟩
      have hl := hR.1
      simp [thawVs] at hl
      cases us with
      | nil => simp at hl
      | cons u us =>
        cases us with
        | nil => exact hR.head
        | cons _ _ => simp at hl
    | cons y ys =>
      have : v = .tup (x :: y :: ys) := by
        simp only [single, Option.some.injEq] at h
        exact h.symm
      subst this
      exact tup _ (by simp)

def nameAt : List Nat → List Nat → Nat → Option Nat
  | m :: ms, b :: bs, i => if i = m then some b else nameAt ms bs i
  | _, _, _ => none
theorem nameAt_some : ∀ {ms bs : List Nat} {i b : Nat}, nameAt ms bs i = some b → ∃ j : Nat, ms[j]? = some i ∧ bs[j]? = some b
  | [], _, _, _, h => by simp [nameAt] at h
  | m :: ms, [], _, _, h => by simp [nameAt] at h
  | m :: ms, b0 :: bs, i, b, h => by
    simp only [nameAt] at h
    split at h
    · rename_i e
      cases h
      exact ⟨0, by simp [e], rfl⟩
    · obtain ⟨j, h1, h2⟩ := nameAt_some h
      exact ⟨j + 1, by simpa using h1, by simpa using h2⟩
theorem nameAt_get : ∀ {ms bs : List Nat} {j m b : Nat}, ms.Nodup → ms[j]? = some m → bs[j]? = some b → nameAt ms bs m = some b
  | [], _, _, _, _, _, h, _ => by simp at h
  | m0 :: ms, [], j, m, b, _, _, h => by simp at h
  | m0 :: ms, b0 :: bs, j, m, b, hn, h1, h2 => by
    cases j with
    | zero => simp at h1 h2; subst h1; subst h2; simp [nameAt]
    | succ j =>
      simp at h1 h2
      have hne : m ≠ m0 := fun e => (List.nodup_cons.1 hn).1 (e ▸ List.mem_of_getElem? h1)
      simp only [nameAt, if_neg hne]
      exact nameAt_get (List.nodup_cons.1 hn).2 h1 h2
theorem boxAt_name : ∀ {ms bs : List Nat} {css : List Thing} {i : Nat} {cs : Thing}, ms.length = bs.length → boxAt ms css i = some cs → ∃ j b : Nat, nameAt ms bs i = some b ∧ bs[j]? = some b ∧ css[j]? = some cs
  | [], _, _, _, _, _, h => by simp [boxAt] at h
  | m :: ms, _, [], _, _, _, h => by simp [boxAt] at h
  | m :: ms, [], _, _, _, hl, _ => by simp at hl
  | m :: ms, b0 :: bs, cs0 :: css, i, cs, hl, h => by
    simp only [boxAt] at h
    split at h
    · rename_i e
      cases h
      exact ⟨0, b0, by simp [nameAt, e], rfl, rfl⟩
    · rename_i e
      obtain ⟨j, b, h1, h2, h3⟩ := boxAt_name (bs := bs) (by simpa using hl) h
      exact ⟨j + 1, b, by simp only [nameAt, if_neg e]; exact h1, by simpa using h2, by simpa using h3⟩

theorem enterA_bx : ∀ (args : List V) (n : Nat), ∀ b ∈ (enterA args n).2.2, n ≤ b ∧ b < n + (enterA args n).2.1.length
  | [], n, b, h => by simp [enterA] at h
  | v :: vs, n, b, h => by
    by_cases hv : ∃ cs, v = .rw cs
    · obtain ⟨cs, rfl⟩ := hv
      have e1 : enterA (.rw cs :: vs) n = (.pt (n + (thawL cs n).2.length) 0 0 :: (enterA vs (n + (thawL cs n).2.length + 1)).1, (thawL cs n).2 ++ .box (thawL cs n).1 :: (enterA vs (n + (thawL cs n).2.length + 1)).2.1, (n + (thawL cs n).2.length) :: (enterA vs (n + (thawL cs n).2.length + 1)).2.2) := rfl
      rw [e1] at h ⊢
      simp only [List.length_append, List.length_cons]
      rcases List.mem_cons.1 h with rfl | h
      · omega
      · have := enterA_bx vs _ b h
        omega
    · by_cases hv2 : ∃ sz es, v = .arr .own sz es
      · obtain ⟨sz, es, rfl⟩ := hv2
        have e1 : enterA (.arr .own sz es :: vs) n = (.sl n sz 0 es.length :: (enterA vs (n + 1)).1, .row sz true true es :: (enterA vs (n + 1)).2.1, n :: (enterA vs (n + 1)).2.2) := rfl
        rw [e1] at h ⊢
        simp only [List.length_cons]
        rcases List.mem_cons.1 h with rfl | h
        · omega
        · have := enterA_bx vs _ b h
          omega
      · have hv' : (∀ cs, v ≠ .rw cs) ∧ ∀ sz es, v ≠ .arr .own sz es := ⟨fun cs e => hv ⟨cs, e⟩, fun sz es e => hv2 ⟨sz, es, e⟩⟩
        rw [enterA_plain hv'] at h ⊢
        exact enterA_bx vs n b h

section
variable {P : Program} {w w0 : World} {c c0 : Cx} {H : HeapF}

theorem finish_back {args : List V} {us0 : List Value} {s : St} {fi : FI} {r : Res} (hIn : In w0 c0 args us0) (step : Step w0 c0 (inH args) w c H) (ha : Agree s.nx s.L H) (hbx : s.bx = (enterA args 0).2.2) (hr : finish fi s = some r) :
    ∃ vals, mapO (resV s) fi.res = some vals ∧ ∀ us, Rs w c vals us → Back w0 c0 args r w (tupled us) := by
  unfold finish at hr
  obtain ⟨vals, hvals, hr⟩ := Option.bind_eq_some_iff.1 hr
  obtain ⟨ro, hro, hr⟩ := Option.bind_eq_some_iff.1 hr
  obtain ⟨bk, hbk, hr⟩ := Option.bind_eq_some_iff.1 hr
  obtain ⟨v, hv, hr⟩ := Option.bind_eq_some_iff.1 hr
  refine ⟨vals, hvals, fun us hR => ?_⟩
  split at hr
  · rename_i hcond
    obtain ⟨hnd, hall⟩ := hcond
    cases hr
    have h := step.heaps
    have hL := ha.heaps h
    obtain ⟨c2, H2, fz⟩ := freeze_sound (ro.2.2 ++ bk.2.2) h ha
    have h2 := fz.step.heaps
    obtain ⟨_, bl, _⟩ := backs_sound hL hbk 0
    refine ⟨by rw [← hbx]; exact bl, fun n0 names hnl hnn hnlt => ?_⟩
    rw [← hbx] at hnl
    obtain ⟨gB, _, boxB⟩ := backs_sound hL hbk n0
    obtain ⟨gR, _, valR⟩ := ownVs_sound hL hR hro (n0 + bk.2.1.length)
    have hm : n0 + (thawLs bk.1 n0).2.length = n0 + bk.2.1.length := by rw [gB.len]
    obtain ⟨th1, th2⟩ := single_thaw hv (n0 + bk.2.1.length)
    have hts : outT (v, bk.1) n0 = (thawLs bk.1 n0).2 ++ (thawVs ro.1 (n0 + bk.2.1.length)).2 := by
      unfold outT
      simp only [hm, th1]
    simp only [hts, hm]
    have G := gB.append gR
    generalize hts' : (thawLs bk.1 n0).2 ++ (thawVs ro.1 (n0 + bk.2.1.length)).2 = ts at G hts
    have hcss : (thawLs bk.1 n0).1.length = s.bx.length := by rw [thawLs_len]; exact bl
    generalize hids : bk.2.1 ++ ro.2.1 = ids at G hnd hall
    have notread : ∀ id ∈ s.bx ++ ids, ¬ id ∈ ro.2.2 ++ bk.2.2 := by
      intro id hid
      have := List.all_eq_true.1 hall id hid
      simpa using this
    have hget : ∀ id ∈ s.bx ++ ids, (freeze s.L (ro.2.2 ++ bk.2.2)).get id = s.L.get id := fun id hid => freeze_other _ _ (by
      have := notread id hid
      simpa using this)
    have was : ∀ id ∈ s.bx ++ ids, ∃ th, s.L.get id = some th ∧ th.open_ = true ∧ H2 id = some th := by
      intro id hid
      have key : ∃ th, s.L.get id = some th ∧ th.open_ = true := by
        rcases List.mem_append.1 hid with hid | hid
        · obtain ⟨j, hj⟩ := List.mem_iff_getElem?.1 hid
          have hjl : j < (thawLs bk.1 n0).1.length := by rw [hcss]; exact (List.getElem?_eq_some_iff.1 hj).1
          exact (boxB j id _ hj (List.getElem?_eq_getElem hjl)).1
        · obtain ⟨i, hi⟩ := List.mem_iff_getElem?.1 hid
          obtain ⟨th, th', g1, g2, _⟩ := G.each i id hi
          exact ⟨th, g1, g2⟩
      obtain ⟨th, g1, g2⟩ := key
      exact ⟨th, g1, g2, (fz.agree.lt (by rw [hget id hid]; exact g1)).2⟩
    let HB : Nat → Prop := fun b => ∃ id th l, id ∈ s.bx ++ ids ∧ H2 id = some th ∧ c2.μ id = some l ∧ th.open_ = true ∧ 0 < l.K ∧ l.b = b
    have HBf : ∀ b, HB b → ¬ c2.Sf b ∧ ¬ c2.So b ∧ b < w.heap.size := by
      rintro b ⟨id, th, l, g1, g2, g3, g4, g5, rfl⟩
      exact h2.free id th l g2 g3 g4 g5
    let idAt : Nat → Option Nat := fun i => if n0 ≤ i then ids[i - n0]? else nameAt names s.bx i
    let c1 : Cx := { μ := fun i => (idAt i).bind c.μ, A := fun i => i ∈ names ∨ (n0 ≤ i ∧ i < n0 + ts.length), Sf := c2.Sf, So := fun b => b < w.heap.size ∧ ¬ HB b }
    have hV : View c c1 s.L (s.bx ++ ids) (ro.2.2 ++ bk.2.2) := by
      refine ⟨fz.step.ext.Sf, fun b hb => ⟨h.old b (.inr hb), fun hB => (HBf b hB).2.1 (fz.step.ext.So b hb)⟩, fun id th l g1 g2 g3 g4 g5 => ?_, fun id th l g1 g2 g3 g4 g5 g6 => ?_⟩
      · obtain ⟨k1, k2, k3⟩ := hL.free id th l g1 g3 g4 g5
        refine ⟨k3, ?_⟩
        rintro ⟨id', th', l', q1, q2, q3, q4, q5, q6⟩
        obtain ⟨th2, y1, y2, y3⟩ := was id' q1
        have hne : id ≠ id' := fun e => g2 (e ▸ q1)
        rw [fz.μ] at q3
        exact hL.apart id id' th th2 l l' hne g1 y1 g3 q3 g4 y2 g5 q5 q6.symm
      · rcases fz.rested id g2 th l g1 g4 g5 g6 with ⟨cs, hb⟩ | hs
        · exact absurd hb (g3 cs)
        · exact hs
    have ndI : ids.Nodup := (List.nodup_append.1 hnd).2.1
    have ndB : s.bx.Nodup := (List.nodup_append.1 hnd).1
    have hN : Named c c1 n0 ids := fun i id hi => by
      have hl := (List.getElem?_eq_some_iff.1 hi).1
      refine ⟨.inr ⟨by omega, by rw [G.len]; omega⟩, ?_⟩
      show (if n0 ≤ n0 + i then ids[n0 + i - n0]? else nameAt names s.bx (n0 + i)).bind c.μ = _
      rw [if_pos (by omega), show n0 + i - n0 = i by omega, hi]
      rfl
    have hrd : ∀ id ∈ bk.2.2 ++ ro.2.2, ¬ id ∈ s.bx ++ ids ∧ id ∈ ro.2.2 ++ bk.2.2 := by
      intro id hid
      have : id ∈ ro.2.2 ++ bk.2.2 := by
        rcases List.mem_append.1 hid with h' | h'
        · exact List.mem_append_right _ h'
        · exact List.mem_append_left _ h'
      exact ⟨fun hh => notread id hh this, this⟩
    have hNB : Named c c1 n0 bk.2.1 := by rw [← hids] at hN; exact hN.left
    have hNR : Named c c1 (n0 + bk.2.1.length) ro.2.1 := by rw [← hids] at hN; exact hN.right
    have inj : ∀ i j id, idAt i = some id → idAt j = some id → i = j := by
      intro i j id hi hj
      simp only [idAt] at hi hj
      have dis : ∀ id, id ∈ s.bx → id ∈ ids → False := fun id h1 h2 => (List.nodup_append.1 hnd).2.2 id h1 id h2 rfl
      split at hi
      · split at hj
        · obtain ⟨y1, y2⟩ := List.getElem?_eq_some_iff.1 hi
          obtain ⟨y3, y4⟩ := List.getElem?_eq_some_iff.1 hj
          have := (List.getElem_inj ndI).1 (y2.trans y4.symm)
          omega
        · obtain ⟨j', _, y2⟩ := nameAt_some hj
          exact (dis id (List.mem_of_getElem? y2) (List.mem_of_getElem? hi)).elim
      · obtain ⟨j1, x1, x2⟩ := nameAt_some hi
        split at hj
        · exact (dis id (List.mem_of_getElem? x2) (List.mem_of_getElem? hj)).elim
        · obtain ⟨j2, z1, z2⟩ := nameAt_some hj
          obtain ⟨y1, y2⟩ := List.getElem?_eq_some_iff.1 x2
          obtain ⟨y3, y4⟩ := List.getElem?_eq_some_iff.1 z2
          have := (List.getElem_inj ndB).1 (y2.trans y4.symm)
          subst this
          rw [x1] at z1
          cases z1
          rfl
    have thing : ∀ i th', outH n0 names (thawLs bk.1 n0).1 ts i = some th' → ∃ id th, idAt i = some id ∧ id ∈ s.bx ++ ids ∧ s.L.get id = some th ∧ H2 id = some th ∧ th.open_ = true ∧ th'.open_ = true ∧ ∀ l, c.μ id = some l → Lies w c l th → Lies w c1 l th' := by
      intro i th' hi
      unfold outH at hi
      split at hi
      · rename_i hge
        have hlt : i - n0 < ids.length := by rw [← G.len]; exact (List.getElem?_eq_some_iff.1 hi).1
        have hid := List.getElem?_eq_getElem hlt
        obtain ⟨th, th2, y1, y2, y3, y4, y5⟩ := G.each _ _ hid
        rw [hi] at y3
        cases y3
        have hm := List.mem_append_right s.bx (List.mem_of_getElem? hid)
        obtain ⟨th3, z1, z2, z3⟩ := was _ hm
        rw [y1] at z1
        cases z1
        exact ⟨_, th, by simp only [idAt, if_pos hge]; exact hid, hm, y1, z3, y2, y4, fun l hl hLies => y5 c1 _ _ l hV hN hrd hl hLies⟩
      · rename_i hge
        obtain ⟨j, b, g1, g2, g3⟩ := boxAt_name hnl hi
        obtain ⟨⟨th0, y1, y0⟩, y3, y2⟩ := boxB j b th' g2 g3
        have hm := List.mem_append_left ids (List.mem_of_getElem? g2)
        obtain ⟨th3, z1, z2, z3⟩ := was _ hm
        rw [y1] at z1
        cases z1
        exact ⟨b, _, by simp only [idAt, if_neg hge]; exact g1, hm, y1, z3, y0, y3, fun l hl _ => y2 c1 _ _ l hV hNB (fun id hid => hrd id (List.mem_append_left _ hid)) hl⟩
    have hH : Heaps w c1 (outH n0 names (thawLs bk.1 n0).1 ts) := by
      refine ⟨fun i th' hi => ?_, fun i hi => ?_, fun i th' l hi hm ho hK => ?_, fun i th' l hi hm ho hK => ?_, fun i j th1 th2 l1 l2 hij hi hj hmi hmj o1 o2 k1 k2 => ?_, fun b hb => ?_⟩
      · obtain ⟨id, th, g1, g2, g3, g4, g5, g6, g7⟩ := thing i th' hi
        obtain ⟨l, y1, y2⟩ := hL.at_ id th g3
        exact ⟨l, by show (idAt i).bind c.μ = _; rw [g1]; exact y1, g7 l y1 y2⟩
      · unfold outH
        split
        · rename_i hge
          refine List.getElem?_eq_none ?_
          have : ¬ (n0 ≤ i ∧ i < n0 + ts.length) := fun hx => hi (.inr hx)
          omega
        · exact boxAt_none fun hx => hi (.inl hx)
      · obtain ⟨id, th, g1, g2, g3, g4, g5, g6, g7⟩ := thing i th' hi
        have hm' : c.μ id = some l := by
          have : (idAt i).bind c.μ = some l := hm
          rw [g1] at this
          exact this
        have hm2 : c2.μ id = some l := by rw [fz.μ]; exact hm'
        obtain ⟨y1, y2, y3⟩ := h2.free id th l g4 hm2 g5 hK
        exact ⟨y1, fun hs => hs.2 ⟨id, th, l, g2, g4, hm2, g5, hK, rfl⟩, y3⟩
      · obtain ⟨id, th, g1, g2, g3, g4, g5, g6, g7⟩ := thing i th' hi
        rw [g6] at ho; cases ho
      · obtain ⟨id, th, g1, g2, g3, g4, g5, g6, g7⟩ := thing i th1 hi
        obtain ⟨id', th', g1', g2', g3', g4', g5', g6', g7'⟩ := thing j th2 hj
        have hmi' : c.μ id = some l1 := by
          have : (idAt i).bind c.μ = some l1 := hmi
          rw [g1] at this
          exact this
        have hmj' : c.μ id' = some l2 := by
          have : (idAt j).bind c.μ = some l2 := hmj
          rw [g1'] at this
          exact this
        have hne : id ≠ id' := by
          intro e
          subst e
          exact hij (inj i j id g1 g1')
        exact hL.apart id id' th th' l1 l2 hne g3 g3' hmi' hmj' g5 g5' k1 k2
      · rcases hb with hb | hb
        · exact h2.old b (.inl hb)
        · exact hb.1
    have hopen : ∀ b, OpenB c1 (outH n0 names (thawLs bk.1 n0).1 ts) b → OpenB c H b := by
      rintro b ⟨i, th', l, g1, g2, g3, g4, rfl⟩
      obtain ⟨id, th, y1, y2, y3, y4, y5, y6, y7⟩ := thing i th' g1
      have hm' : c.μ id = some l := by
        have : (idAt i).bind c.μ = some l := g2
        rw [y1] at this
        exact this
      exact ⟨id, th, l, (ha.lt y3).2, hm', y5, g4, rfl⟩
    refine ⟨c1, ⟨hH, fun b hb => fz.step.ext.Sf b (step.ext.Sf b hb), fun b hb => ?_, step.size, step.same, fun b hb => step.opens b (hopen b hb), fun b hb => ?_, step.os, step.tape, step.output⟩, fun j b m hj hmj => ?_, fun i => Iff.rfl, ?_⟩
    · have hb' := step.ext.So b hb
      exact ⟨h.old b (.inr hb'), fun hB => (HBf b hB).2.1 (fz.step.ext.So b hb')⟩
    · rcases fz.step.sf b hb with h' | h' | h'
      · exact step.sf b h'
      · exact (step.opens b h').elim (fun x => .inr (.inl x)) fun x => .inr (.inr x)
      · exact .inr (.inr (by have := step.size; omega))
    · have hj' : s.bx[j]? = some b := by rw [hbx]; exact hj
      have hmn : m < n0 := hnlt m (List.mem_of_getElem? hmj)
      show (if n0 ≤ m then _ else nameAt names s.bx m).bind c.μ = c0.μ b
      rw [if_neg (by omega), nameAt_get hnn hmj hj']
      have hb := (enterA_bx args 0 b (List.mem_of_getElem? hj)).2
      have hA0 : c0.A b := (hIn.A b).2 (by omega)
      obtain ⟨th, y1, y2, y3⟩ := was b (List.mem_append_left _ (List.mem_of_getElem? hj'))
      obtain ⟨l, z1, z2⟩ := hL.at_ b th y1
      show c.μ b = c0.μ b
      rw [z1, step.ext.μ b l hA0 z1]
    · exact th2 (valR c1 _ _ hV hNR fun id hid => hrd id (List.mem_append_right _ hid))
  · cases hr
end
end Go.Fm
end
