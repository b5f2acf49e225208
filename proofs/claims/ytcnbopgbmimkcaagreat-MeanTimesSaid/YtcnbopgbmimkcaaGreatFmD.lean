/- Part of the machine FM and of the proof that what it answers the model answers. -/
import Derived.Test.YtcnbopgbmimkcaaGreatFmC
import Derived.Test.YtcnbopgbmimkcaaGreatFmA
set_option linter.all false
set_option linter.unusedSimpArgs false
set_option linter.unusedVariables false
set_option linter.unnecessarySimpa false
set_option linter.unusedSectionVars false
section
/- FM: what an operation looks at, what it leaves alone. -/
set_option autoImplicit false
namespace Go.Fm

theorem foldlM_congr {α β : Type} {f g : β → α → Option β} : ∀ {l : List α} {b : β}, (∀ x ∈ l, ∀ b, f b x = g b x) → l.foldlM f b = l.foldlM g b
  | [], b, _ => rfl
  | x :: l, b, h => by
    simp only [List.foldlM_cons]
    rw [h x (List.mem_cons_self ..)]
    congr 1
    funext b'
    exact foldlM_congr fun y hy => h y (List.mem_cons_of_mem _ hy)

section
variable {T : FuncId → Option Def} {call : Caller} {ρ ρ' : Opd → V} {L : Heap} {nx : Nat}

theorem cutV_congr {lo hi : Option Opd} (h : ∀ x ∈ lo.toList ++ hi.toList, ρ x = ρ' x) (n : Nat) : cutV ρ lo hi n = cutV ρ' lo hi n := by
  have h1 : loV ρ lo = loV ρ' lo := by
    cases lo with
    | none => rfl
    | some o => simp only [loV, h o (by simp)]
  have h2 : hiV ρ n hi = hiV ρ' n hi := by
    cases hi with
    | none => rfl
    | some o => simp only [hiV, h o (by simp)]
  simp only [cutV, h1, h2]

theorem exec_congr {op : COp} (h : ∀ x ∈ opnds op, ρ x = ρ' x) : exec T call ρ L nx op = exec T call ρ' L nx op := by
  cases op
  case bld zero ps =>
    simp only [exec, pureOp]
    rw [foldlM_congr (g := fun cs p => if (ρ' p.2.2).cells.length = p.2.1 ∧ p.1 + p.2.1 ≤ cs.length ∧ (ρ' p.2.2).cells.all isCell = true then some (putL cs p.1 (ρ' p.2.2).cells) else none) fun p hp b => by
      rw [h p.2.2 (List.mem_map.2 ⟨p, hp, rfl⟩)]]
  case bsl sz len zero ps =>
    simp only [exec, newOp]
    rw [foldlM_congr (g := fun es p => if (ρ' p.2).cells.length = sz ∧ p.1 < es.length ∧ (ρ' p.2).cells.all isCell = true then some (es.set p.1 (ρ' p.2).cells) else none) fun p hp b => by
      rw [h p.2 (List.mem_map.2 ⟨p, hp, rfl⟩)]]
  case mkf f first caps =>
    simp only [exec, pureOp]
    rw [List.map_congr_left fun x hx => h x (List.mem_append_left _ hx), List.map_congr_left fun x hx => h x (List.mem_append_right _ hx)]
  case max xs => simp only [exec, pureOp]; rw [List.map_congr_left (l := xs) fun x hx => h x hx]
  case min xs => simp only [exec, pureOp]; rw [List.map_congr_left (l := xs) fun x hx => h x hx]
  case call f args => simp only [exec]; rw [List.map_congr_left (l := args) fun x hx => h x hx]
  case callv f args =>
    simp only [exec]
    rw [h f (List.mem_cons_self ..), List.map_congr_left fun x hx => h x (List.mem_cons_of_mem _ hx)]
  case slc sz x lo hi =>
    have hc := cutV_congr (ρ := ρ) (ρ' := ρ') (lo := lo) (hi := hi) fun y hy => h y (List.mem_cons_of_mem _ hy)
    simp only [exec, pureOp, h x (List.mem_cons_self ..), hc]
  case slcs x lo hi =>
    have hc := cutV_congr (ρ := ρ) (ρ' := ρ') (lo := lo) (hi := hi) fun y hy => h y (List.mem_cons_of_mem _ hy)
    simp only [exec, pureOp, h x (List.mem_cons_self ..), hc]
  all_goals
    simp only [opnds, List.mem_cons, List.mem_nil_iff, or_false, forall_eq_or_imp, forall_eq] at h
    first
      | rfl
      | (simp only [exec, pureOp, newOp, h]; done)
      | (obtain ⟨h1, h2⟩ := h; simp only [exec, pureOp, newOp, h1, h2]; done)
      | (obtain ⟨h1, h2, h3⟩ := h; simp only [exec, pureOp, newOp, h1, h2, h3]; done)

/-! ### What is left alone -/
def Top (L : Heap) (nx : Nat) : Prop := ∀ id, nx ≤ id → L.get id = none
theorem Top.lt {L : Heap} {nx : Nat} (h : Top L nx) {id : Nat} {th : Thing} (hi : L.get id = some th) : id < nx := by
  rcases Nat.lt_or_ge id nx with h1 | h1
  · exact h1
  · rw [h id h1] at hi; cases hi

structure Kept (L : Heap) (nx : Nat) (L' : Heap) (nx' : Nat) (touched : List Nat) : Prop where
  top : Top L' nx'
  le : nx ≤ nx'
  kept : ∀ id th, ¬ id ∈ touched → L.get id = some th → L'.get id = some th ∨ L'.get id = some th.frozen
theorem Kept.refl {t : List Nat} (h : Top L nx) : Kept L nx L nx t := ⟨h, Nat.le_refl _, fun _ _ _ h => .inl h⟩
theorem freeze1_top (h : Top L nx) (id : Nat) : Top (freeze1 L id) nx := by
  intro i hi
  unfold freeze1
  split
  · rename_i hg
    have := h.lt hg
    rw [Tr.get_put_ne _ _ _ _ (by omega)]; exact h i hi
  · rename_i hg
    have := h.lt hg
    rw [Tr.get_put_ne _ _ _ _ (by omega)]; exact h i hi
  · exact h i hi
theorem freeze_top : ∀ (ids : List Nat) {L : Heap}, Top L nx → Top (freeze L ids) nx
  | [], _, h => h
  | id :: ids, L, h => by
    rw [freeze, List.foldl_cons, ← freeze]
    exact freeze_top ids (freeze1_top h id)
theorem Kept.freeze {t : List Nat} (h : Top L nx) (ids : List Nat) : Kept L nx (Fm.freeze L ids) nx t := ⟨freeze_top ids h, Nat.le_refl _, fun i th _ hi => freeze_kept ids L i th hi⟩
theorem Kept.put {L' : Heap} {nx' : Nat} {t : List Nat} (h : Kept L nx L' nx' t) {id : Nat} (hid : id ∈ t) (hlt : id < nx') (x : Option Thing) : Kept L nx (L'.put id x) nx' t := by
  refine ⟨fun i hi => ?_, h.le, fun i th hn hi => ?_⟩
  · rw [Tr.get_put_ne _ _ _ _ (by omega)]; exact h.top i hi
  · rw [Tr.get_put_ne _ _ _ _ (fun e => by subst e; exact hn hid)]; exact h.kept i th hn hi
theorem Kept.new {L' : Heap} {nx' : Nat} {t : List Nat} (hT : Top L nx) (h : Kept L nx L' nx' t) (x : Option Thing) : Kept L nx (L'.put nx' x) (nx' + 1) t := by
  refine ⟨fun i hi => ?_, by have := h.le; omega, fun i th hn hi => ?_⟩
  · rw [Tr.get_put_ne _ _ _ _ (by omega)]; exact h.top i (by omega)
  · have h1 := hT.lt hi
    have h2 := h.le
    rw [Tr.get_put_ne _ _ _ _ (by omega)]; exact h.kept i th hn hi

theorem store_kept {n : Nat} {p x : V} {r : Out} (hT : Top L nx) (hr : store L nx n p x = some r) : Kept L nx r.2.1 r.2.2.1 r.2.2.2 := by
  unfold store at hr
  split at hr
  · split at hr
    · split at hr
      · rename_i hth
        split at hr
        · cases hr
          exact (Kept.refl hT).put (by simp) (hT.lt hth) _
        · cases hr
      · rename_i hth
        split at hr
        · split at hr
          · obtain ⟨xs, _, rfl⟩ := Option.map_eq_some_iff.1 hr
            exact (Kept.freeze hT _).put (by simp) (hT.lt hth) _
          · cases hr
        · cases hr
      · cases hr
    · cases hr
  · cases hr
theorem append_kept {sz bytes : Nat} {s x : V} {r : Out} (hT : Top L nx) (hr : append L nx sz bytes s x = some r) : Kept L nx r.2.1 r.2.2.1 r.2.2.2 := by
  unfold append at hr
  obtain ⟨q, _, hr⟩ := Option.bind_eq_some_iff.1 hr
  have nilCase : ∀ s : V, (if q.1.length * bytes ≤ room then (if q.1.isEmpty then some (s, L, nx, ([] : List Nat)) else some (.sl nx sz 0 q.1.length, (Fm.freeze L q.2).put nx (some (.row sz true true q.1)), nx + 1, [])) else none) = some r → Kept L nx r.2.1 r.2.2.1 r.2.2.2 := by
    intro s hr
    split at hr
    · split at hr
      · cases hr; exact Kept.refl hT
      · cases hr; exact (Kept.freeze hT _).new hT _
    · cases hr
  split at hr
  · exact nilCase _ hr
  · exact nilCase _ hr
  · split at hr
    · rename_i hth
      split at hr
      · split at hr
        · cases hr
          exact ((Kept.freeze hT _).put (by simp) (hT.lt hth) _).new hT _
        · split at hr
          · cases hr
            exact (Kept.freeze hT _).put (by simp) (hT.lt hth) _
          · cases hr
      · cases hr
    · cases hr
  · cases hr
theorem copy_kept {sz : Nat} {d s : V} {r : Out} (hT : Top L nx) (hr : copyTo L nx sz d s = some r) : Kept L nx r.2.1 r.2.2.1 r.2.2.2 := by
  unfold copyTo at hr
  obtain ⟨q, _, hr⟩ := Option.bind_eq_some_iff.1 hr
  split at hr
  · split at hr
    · rename_i hth
      split at hr
      · cases hr
        exact (Kept.freeze hT _).put (by simp) (hT.lt hth) _
      · cases hr
    · cases hr
  · cases hr
theorem mapUp_kept {kk : Kk} {m k x : V} {r : Out} (hT : Top L nx) (hr : mapUp L nx kk m k x = some r) : Kept L nx r.2.1 r.2.2.1 r.2.2.2 := by
  unfold mapUp at hr
  split at hr
  · split at hr
    · rename_i hth
      split at hr
      · obtain ⟨_, _, hr⟩ := Option.bind_eq_some_iff.1 hr
        obtain ⟨_, _, rfl⟩ := Option.map_eq_some_iff.1 hr
        exact (Kept.freeze hT _).put (by simp) (hT.lt hth) _
      · cases hr
    · cases hr
  · cases hr

theorem ownL_ids : ∀ {cs : List V} {q : List V × List Nat × List Nat}, ownL L cs = some q → ∀ id ∈ q.2.1, ∃ th, L.get id = some th
  | [], q, h, id, hid => by cases h; simp at hid
  | v :: cs, q, h, id, hid => by
    simp only [ownL, Option.bind_eq_some_iff] at h
    obtain ⟨r, hr, q', hq', he⟩ := h
    cases he
    rcases List.mem_append.1 hid with hid | hid
    · unfold ownC at hr
      have plain : (Fm.dr L.get .fresh deep v).map (fun v' => (v', ([] : List Nat), refs L.get deep v)) = some r → ∃ th, L.get id = some th := by
        intro hr
        obtain ⟨_, _, rfl⟩ := Option.map_eq_some_iff.1 hr
        simp at hid
      split at hr
      · split at hr
        · rename_i hth
          split at hr
          · cases hr
            simp at hid
            subst hid
            exact ⟨_, hth⟩
          · exact plain hr
        · exact plain hr
      · split at hr
        · rename_i hth
          cases hr
          simp at hid
          subst hid
          exact ⟨_, hth⟩
        · exact plain hr
      · exact plain hr
    · exact ownL_ids hq' id hid
theorem pass_ids {leaky : Bool} : ∀ {rwp : List (Option Nat)} {args : List V} {p : Pass}, pass L leaky rwp args = some p → ∀ id ∈ p.boxes ++ p.rows, ∃ th, L.get id = some th
  | _, [], p, h, id, hid => by simp only [pass, Option.some.injEq] at h; subst h; simp at hid
  | rwp, v :: vs, p, h, id, hid => by
    simp only [pass] at h
    split at h
    · split at h
      · split at h
        · rename_i hth
          split at h
          · obtain ⟨p', hp', rfl⟩ := Option.map_eq_some_iff.1 h
            simp only [List.cons_append, List.mem_cons] at hid
            rcases hid with rfl | hid
            · exact ⟨_, hth⟩
            · exact pass_ids hp' id hid
          · cases h
        · cases h
      · obtain ⟨p', hp', rfl⟩ := Option.map_eq_some_iff.1 h
        exact pass_ids hp' id hid
      · cases h
    · split at h
      · split at h
        · rename_i hth
          split at h
          · obtain ⟨q, hq, h⟩ := Option.bind_eq_some_iff.1 h
            obtain ⟨p', hp', rfl⟩ := Option.map_eq_some_iff.1 h
            simp only [List.cons_append, List.mem_cons, List.mem_append] at hid
            rcases hid with rfl | hid | hid | hid
            · exact ⟨_, hth⟩
            · exact pass_ids hp' id (List.mem_append_left _ hid)
            · exact ownL_ids hq id hid
            · exact pass_ids hp' id (List.mem_append_right _ hid)
          · cases h
        · cases h
      · cases h
    · split at h
      · obtain ⟨p', hp', rfl⟩ := Option.map_eq_some_iff.1 h
        exact pass_ids hp' id hid
      · obtain ⟨v', hd, h⟩ := Option.bind_eq_some_iff.1 h
        obtain ⟨p', hp', rfl⟩ := Option.map_eq_some_iff.1 h
        exact pass_ids hp' id hid

theorem call_kept {d : Def} {c : List V → Option Res} {args : List V} {r : Out} (hT : Top L nx) (hr : callDef d c args L nx = some r) : Kept L nx r.2.1 r.2.2.1 r.2.2.2 := by
  unfold callDef at hr
  obtain ⟨p, hp, hr⟩ := Option.bind_eq_some_iff.1 hr
  split at hr
  · rename_i hcond
    obtain ⟨res, _, hr⟩ := Option.bind_eq_some_iff.1 hr
    split at hr
    · cases hr
      have ndB : p.boxes.Nodup := (List.nodup_append.1 hcond.1).1
      have lt : ∀ id ∈ p.boxes ++ p.rows, id < nx := fun id hid => by
        obtain ⟨th, h⟩ := pass_ids hp id hid
        exact hT.lt h
      refine ⟨fun i hi => ?_, by simp, fun i th hn hi => ?_⟩
      · simp only at hi ⊢
        rw [putAll_get, if_neg (by omega), putBoxes_get _ _ _ _ ndB, kill_get, boxAt_none (fun hm => by have := lt i (List.mem_append_left _ hm); omega)]
        simp only
        split
        · rfl
        · exact freeze_top _ hT i (by omega)
      · simp only at hn ⊢
        have hb : ¬ i ∈ p.boxes := fun hm => hn (List.mem_append_left _ hm)
        have hrr : ¬ i ∈ p.rows := fun hm => hn (List.mem_append_right _ hm)
        have := hT.lt hi
        rw [putAll_get, if_neg (by omega), putBoxes_get _ _ _ _ ndB, kill_get, boxAt_none hb]
        simp only [hrr, if_false]
        exact freeze_kept p.rest L i th hi
    · cases hr
  · cases hr

theorem appZeros_kept {sz bytes : Nat} {zero : List V} {s n : V} {r : Out} (hT : Top L nx) (hr : appZeros L nx sz bytes zero s n = some r) : Kept L nx r.2.1 r.2.2.1 r.2.2.2 := by
  unfold appZeros at hr
  split at hr
  · split at hr
    · split at hr
      · cases hr; exact Kept.refl hT
      · cases hr
        exact (Kept.refl hT).new hT _
    · cases hr
  · cases hr

/-- Operations by class. -/
theorem exec_p {op : COp} (hc : cls op = .p) {r : Out} (hr : exec T call ρ L nx op = some r) : ∃ v, pureOp ρ op = some v ∧ r = (v, L, nx, []) := by
  cases op <;> first
    | (cases hc; done)
    | (simp only [exec] at hr; obtain ⟨v, hv, rfl⟩ := Option.map_eq_some_iff.1 hr; exact ⟨v, hv, rfl⟩)
theorem exec_a {op : COp} (hc : cls op = .a) {r : Out} (hr : exec T call ρ L nx op = some r) : ∃ p, newOp ρ op = some p ∧ r = (p.1 nx, L.put nx (some p.2), nx + 1, []) := by
  cases op <;> first
    | (cases hc; done)
    | (simp only [exec] at hr; obtain ⟨v, hv, rfl⟩ := Option.map_eq_some_iff.1 hr; exact ⟨v, hv, rfl⟩)
theorem exec_r {op : COp} (hc : cls op = .r) {r : Out} (hr : exec T call ρ L nx op = some r) : r.2 = (L, nx, []) := by
  cases op <;> try (cases hc; done)
  case ld ag n x =>
    simp only [exec, Option.bind_eq_some_iff, Option.map_eq_some_iff] at hr
    obtain ⟨_, _, _, _, rfl⟩ := hr
    rfl
  case look ok z kk m k =>
    simp only [exec, Option.bind_eq_some_iff] at hr
    obtain ⟨_, _, hr⟩ := hr
    split at hr
    · obtain ⟨_, _, rfl⟩ := Option.map_eq_some_iff.1 hr
      rfl
    · cases hr
  case lenm x =>
    simp only [exec, Option.map_eq_some_iff] at hr
    obtain ⟨_, _, rfl⟩ := hr
    rfl
  case b2s x =>
    simp only [exec, Option.map_eq_some_iff] at hr
    obtain ⟨_, _, rfl⟩ := hr
    rfl
theorem exec_kept {op : COp} {r : Out} (hT : Top L nx) (hr : exec T call ρ L nx op = some r) : Kept L nx r.2.1 r.2.2.1 r.2.2.2 := by
  cases hc : cls op with
  | p => obtain ⟨v, _, rfl⟩ := exec_p hc hr; exact Kept.refl hT
  | r =>
    have := exec_r hc hr
    rw [this]
    exact Kept.refl hT
  | a => obtain ⟨p, _, rfl⟩ := exec_a hc hr; exact (Kept.refl hT).new hT _
  | m =>
    cases op <;> try (cases hc; done)
    case st n p x => exact store_kept hT hr
    case app sz bytes s x => exact append_kept hT hr
    case apn sz bytes zero s n => exact appZeros_kept hT hr
    case cpy sz d s => exact copy_kept hT hr
    case mup kk m k v => exact mapUp_kept hT hr
    case call f args =>
      simp only [exec, Option.bind_eq_some_iff] at hr
      obtain ⟨d, _, hr⟩ := hr
      exact call_kept hT hr
    case callv f args =>
      simp only [exec] at hr
      split at hr
      · obtain ⟨d, _, hr⟩ := Option.bind_eq_some_iff.1 hr
        exact call_kept hT hr
      · cases hr
end
end Go.Fm
end

section
/- FM: one operation, whichever. -/
set_option autoImplicit false
namespace Go.Fm

/-- What a function's calls come to, wherever it is called. -/
def Answers (P : Program) (f : FuncId) (ans : List V → Option Res) : Prop :=
  ∀ (args : List V) (r : Res), ans args = some r → ∀ (w : World) (c0 : Cx) (us : Array Value), In w c0 args us.toList →
    ∀ (o : Oper) (a : Act) (K : Act → World → Prop) (Q : Exit → Act → World → Prop), (∀ u w', Back w c0 args r w' u → K (a.put o.dst u) w') → o.upon P a K Q ((callFunc f us).run P w)

theorem Meets.answers {P : Program} {f : FuncId} {ans : List V → Option Res} (h : Meets P f ans) {fn : Func} (hf : P.funcs[f]? = some fn) (hn : (fn.name == "runtime.NumGoroutine") = false) (hb : fn.body.isNone = false) : Answers P f ans := by
  intro args r hr w c0 us hIn o a K Q hK
  have e1 : (callFunc f us).run P w = .ok (.enter f us) w := by
    have hn' : fn.name ≠ "runtime.NumGoroutine" := by simpa using hn
    have hb' : fn.body ≠ none := by
      intro e
      rw [e] at hb
      cases hb
    simp [callFunc, hf, hn', hb']
  rw [e1, Oper.upon_enter]
  refine Calls.mono (h args r hr w c0 us hIn) ?_
  rintro e w' ⟨u, rfl, hB⟩
  exact hK u w' hB

section
variable {P : Program} {w : World} {c : Cx} {H : HeapF} {env : Nat → V} {a : Act} {op : Oper} {T : FuncId → Option Def} {call : Caller} {nx : Nat} {L : Heap}

theorem Done.wp {r : Out} (h : Done P w c H nx L a op r) {K : Act → World → Prop} {Q : Exit → Act → World → Prop} (hK : ∀ u w' c' H', Did w c H nx L w' c' H' r.2.2.1 r.2.1 r.2.2.2 → R w' c' r.1 u → K (a.put op.dst u) w') : op.wp P a w K Q := by
  obtain ⟨n, v', w', c', H', h1, h2, h3, h4⟩ := h
  unfold Oper.wp
  rw [h1]
  rcases h2 with rfl | ⟨rfl, rfl⟩
  · rw [Oper.upon_value]; exact hK _ _ _ _ h3 h4
  · rw [Oper.upon_skip]; exact hK _ _ _ _ h3 h4

theorem callee_wp (hT : ∀ f d, T f = some d → Answers P f (call f)) (h : Heaps w c H) (ha : Agree nx L H) {f : FuncId} {args : List V} {us : Array Value} (hR : Rs w c args us.toList) {r : Out} (hr : (T f).bind (fun d => callDef d (call f) args L nx) = some r)
    (hfree : ∀ j, nx ≤ j → j < r.2.2.1 → ¬ c.A j) (he : (execOp a.eval op).run P w = (callFunc f us).run P w) {K : Act → World → Prop} {Q : Exit → Act → World → Prop}
    (hK : ∀ u w' c' H', Did w c H nx L w' c' H' r.2.2.1 r.2.1 r.2.2.2 → R w' c' r.1 u → K (a.put op.dst u) w') : op.wp P a w K Q := by
  obtain ⟨d, hd, hr⟩ := Option.bind_eq_some_iff.1 hr
  obtain ⟨args', res, c0, g1, g2, g3⟩ := call_frame h ha hR hr hfree
  unfold Oper.wp
  rw [he]
  refine hT f d hd args' res g1 w c0 us g2 op a K Q fun u w' hB => ?_
  obtain ⟨c', H', k1, k2⟩ := g3 u w' hB
  exact hK u w' c' H' k1 k2

theorem mapO_two {α β : Type} {f : α → Option β} {l : List α} {y z : β} (h : mapO f l = some [y, z]) : ∃ x x', l = [x, x'] ∧ f x = some y ∧ f x' = some z := by
  match l, h with
  | [], h => cases h
  | [x], h =>
    simp only [mapO, Option.bind_eq_some_iff] at h
    obtain ⟨_, _, _, h1, h2⟩ := h
    cases h1
    cases h2
  | [x, x'], h =>
    simp only [mapO, Option.bind_eq_some_iff] at h
    obtain ⟨y1, h1, ys, ⟨y2, h2, ys2, h3, h4⟩, h5⟩ := h
    cases h3
    cases h4
    cases h5
    exact ⟨x, x', rfl, h1, h2⟩
  | x :: x' :: x'' :: l, h =>
    have := mapO_len h
    simp at this

/-- Operations that write, all. -/
theorem m_sound (hT : ∀ f d, T f = some d → Answers P f (call f)) (h : Heaps w c H) (ha : Agree nx L H) {g : Op} {o : COp} (hg : cOp P g = some o) (hop : op.op = g) (hE : EnvR w c env a) (hcl : cls o = .m) {r : Out} (hr : exec T call (opd env) L nx o = some r)
    (hfree : ∀ j, nx ≤ j → j < r.2.2.1 → ¬ c.A j) {K : Act → World → Prop} {Q : Exit → Act → World → Prop} (hK : ∀ u w' c' H', Did w c H nx L w' c' H' r.2.2.1 r.2.1 r.2.2.2 → R w' c' r.1 u → K (a.put op.dst u) w') : op.wp P a w K Q := by
  have hk := cOp_kind hg
  cases o <;> try (cases hcl; done)
  case st n p x =>
    cases g <;> first | (exfalso; revert hk; simp [kindsOf, kind]; done) | skip
    simp only [cOp, Option.bind_eq_some_iff, Option.map_eq_some_iff] at hg
    obtain ⟨p', hp, x', hx, i, hi, he⟩ := hg
    cases he
    exact (store_sound h ha hop hi hp hx hE hr).wp hK
  case mup kk m k v =>
    cases g <;> first | (exfalso; revert hk; simp [kindsOf, kind]; done) | skip
    simp only [cOp] at hg
    split at hg
    · rename_i hu
      simp only [Option.bind_eq_some_iff, Option.map_eq_some_iff] at hg
      obtain ⟨m', hm, k', hk', v', hv, n, hn, he⟩ := hg
      cases he
      exact (mapUp_sound h ha hop hu hm hk' hv hn hE hr).wp hK
    · cases hg
  case call f args =>
    cases g <;> first | (exfalso; revert hk; simp [kindsOf, kind]; done) | skip
    rename_i cl
    obtain ⟨callee, xs, ts⟩ := cl
    simp only [cOp, cCall, Option.bind_eq_some_iff] at hg
    obtain ⟨args', hargs, hg⟩ := hg
    split at hg
    · cases hg
      have hR : Rs w c (args.map (opd env)) (xs.map a.eval).toList := by
        rw [Array.toList_map]
        exact opds_sound hE _ _ hargs
      have he : (execOp a.eval op).run P w = (callFunc f (xs.map a.eval)).run P w := by simp [execOp, hop, resolve, Deferred.ofValue, invoke, Act.eval]
      simp only [exec] at hr
      exact callee_wp hT h ha hR hr hfree he hK
    all_goals first
      | (cases hg; done)
      | (exfalso
         revert hg
         repeat' first
           | (intro hg; cases hg; done)
           | (simp only [reduceCtorEq]; done)
           | split
           | (intro hg; obtain ⟨_, _, hg⟩ := Option.bind_eq_some_iff.1 hg; obtain ⟨_, he⟩ := opt_some hg; cases he; done)
           | (intro hg; obtain ⟨_, _, hg⟩ := Option.bind_eq_some_iff.1 hg; obtain ⟨_, _, hg⟩ := Option.bind_eq_some_iff.1 hg; obtain ⟨_, he⟩ := opt_some hg; cases he; done))
  case callv f args =>
    cases g <;> first | (exfalso; revert hk; simp [kindsOf, kind]; done) | skip
    rename_i cl
    obtain ⟨callee, xs, ts⟩ := cl
    simp only [cOp, cCall, Option.bind_eq_some_iff] at hg
    obtain ⟨args', hargs, hg⟩ := hg
    split at hg
    · cases hg
    · rename_i t
      cases hg
      have hR := opds_sound hE _ _ hargs
      simp only [exec] at hr
      split at hr
      · rename_i f' first caps hf
        have hfR := hE t
        have hfR' : R w c (.fn f' first caps) (a.eval (.tmp t)) := by
          have : opd env (.t t) = V.fn f' first caps := hf
          rw [← this]
          exact hfR
        generalize hfu : a.eval (.tmp t) = fu at hfR'
        cases hfR' with
        | fn h1 h2 ra rb =>
          rename_i va vb
          have hR' : Rs w c (first ++ args.map (opd env) ++ caps) ((va ++ xs.map a.eval) ++ vb).toList := by
            rw [Array.toList_append, Array.toList_append, Array.toList_map]
            exact Rs.append (Rs.append (Rs.of_array h1 ra) hR) (Rs.of_array h2 rb)
          have he : (execOp a.eval op).run P w = (callFunc f' ((va ++ xs.map a.eval) ++ vb)).run P w := by simp [execOp, hop, resolve, Deferred.ofValue, invoke, hfu]
          exact callee_wp hT h ha hR' hr hfree he hK
      · cases hr
    all_goals first
      | (cases hg; done)
      | (exfalso
         revert hg
         repeat' first
           | (intro hg; cases hg; done)
           | (simp only [reduceCtorEq]; done)
           | split
           | (intro hg; obtain ⟨_, _, hg⟩ := Option.bind_eq_some_iff.1 hg; obtain ⟨_, he⟩ := opt_some hg; cases he; done)
           | (intro hg; obtain ⟨_, _, hg⟩ := Option.bind_eq_some_iff.1 hg; obtain ⟨_, _, hg⟩ := Option.bind_eq_some_iff.1 hg; obtain ⟨_, he⟩ := opt_some hg; cases he; done))
  case app sz bytes s x =>
    cases g <;> first | (exfalso; revert hk; simp [kindsOf, kind]; done) | skip
    rename_i cl
    obtain ⟨callee, xs, ts⟩ := cl
    simp only [cOp, cCall, Option.bind_eq_some_iff] at hg
    obtain ⟨args', hargs, hg⟩ := hg
    have fin : ∀ {t tx e : TypeId} {d : TypeDesc} {i : TypeInfo} {s1 x1 : Opd}, callee = .builtin .append → ts[0]? = some t → ts[1]? = some tx → P.underlying t = some (.slice e) → P.underlying tx = some d → Apd d → P.info? e = some i → args' = [s1, x1] →
        opt (i.size != 0 && i.bytes != 0 && (i.zero.map fun z => z.cells.size) == some i.size) (COp.app i.size i.bytes s1 x1) = some (COp.app sz bytes s x) → op.wp P a w K Q := by
      intro t tx e d i s1 x1 hcal h0 h1 ht htx hd hi ha' ho
      subst hcal
      subst ha'
      obtain ⟨hb, he⟩ := opt_some ho
      cases he
      simp only [Bool.and_eq_true, bne_iff_ne, ne_eq, beq_iff_eq] at hb
      obtain ⟨⟨b1, b2⟩, b3⟩ := hb
      obtain ⟨zz, hz, hzs⟩ := Option.map_eq_some_iff.1 b3
      obtain ⟨s0, x0, hxs, hs, hx⟩ := mapO_two hargs
      exact (append_sound h ha hop h0 h1 ht htx hd hi (by omega) hz hzs hxs hs hx hE hr hfree).wp hK
    repeat' first
      | (cases hg; done)
      | split at hg
    all_goals first
      | (cases hg; done)
      | (obtain ⟨_, _, hg⟩ := Option.bind_eq_some_iff.1 hg
         obtain ⟨_, _, hg⟩ := Option.bind_eq_some_iff.1 hg
         obtain ⟨_, he⟩ := opt_some hg
         cases he
         done)
      | (obtain ⟨i, hi, hg⟩ := Option.bind_eq_some_iff.1 hg
         first
           | (obtain ⟨_, he⟩ := opt_some hg; cases he; done)
           | skip)
    · rename_i q0 q1 _
      obtain ⟨t, g1, g2⟩ := Option.bind_eq_some_iff.1 q0
      obtain ⟨tx, g3, g4⟩ := Option.bind_eq_some_iff.1 q1
      exact fin rfl g1 g3 g2 g4 (.inl ⟨_, rfl⟩) hi rfl hg
    · rename_i q0 q1 _
      obtain ⟨t, g1, g2⟩ := Option.bind_eq_some_iff.1 q0
      obtain ⟨tx, g3, g4⟩ := Option.bind_eq_some_iff.1 q1
      exact fin rfl g1 g3 g2 g4 (.inr rfl) hi rfl hg
  case apn sz bytes zero s x =>
    cases g <;> first | (exfalso; revert hk; simp [kindsOf, kind]; done) | skip
    rename_i cl
    obtain ⟨callee, xs, ts⟩ := cl
    simp only [cOp, cCall, Option.bind_eq_some_iff] at hg
    obtain ⟨args', hargs, hg⟩ := hg
    repeat' first
      | (cases hg; done)
      | split at hg
    all_goals first
      | (cases hg; done)
      | (obtain ⟨_, _, hg⟩ := Option.bind_eq_some_iff.1 hg
         obtain ⟨_, _, hg⟩ := Option.bind_eq_some_iff.1 hg
         obtain ⟨_, he⟩ := opt_some hg
         cases he
         done)
      | (obtain ⟨i, hi, hg⟩ := Option.bind_eq_some_iff.1 hg
         first
           | (obtain ⟨_, he⟩ := opt_some hg; cases he; done)
           | skip)
    · rename_i q0 q1 _
      obtain ⟨t, g1, g2⟩ := Option.bind_eq_some_iff.1 q0
      obtain ⟨tx, g3, g4⟩ := Option.bind_eq_some_iff.1 q1
      obtain ⟨i', hi', hg⟩ := Option.bind_eq_some_iff.1 hg
      obtain ⟨hb, he⟩ := opt_some hg
      cases he
      simp only [Bool.and_eq_true, bne_iff_ne, ne_eq, beq_iff_eq, decide_eq_true_eq] at hb
      obtain ⟨rfl, ⟨b1, b2⟩, b3⟩ := hb
      obtain ⟨zz, hz, hzs⟩ := Option.map_eq_some_iff.1 b3
      obtain ⟨s0, x0, hxs, hs, hx⟩ := mapO_two hargs
      exact (apn_sound h ha hop g1 g3 g2 g4 hi' hi b1 (by omega) hz hzs hxs hs hx hE hr hfree).wp hK
  case cpy sz d s =>
    cases g <;> first | (exfalso; revert hk; simp [kindsOf, kind]; done) | skip
    rename_i cl
    obtain ⟨callee, xs, ts⟩ := cl
    simp only [cOp, cCall, Option.bind_eq_some_iff] at hg
    obtain ⟨args', hargs, hg⟩ := hg
    repeat' first
      | (cases hg; done)
      | split at hg
    all_goals first
      | (cases hg; done)
      | (obtain ⟨_, _, hg⟩ := Option.bind_eq_some_iff.1 hg
         obtain ⟨_, _, hg⟩ := Option.bind_eq_some_iff.1 hg
         obtain ⟨_, he⟩ := opt_some hg
         cases he
         done)
      | (obtain ⟨i, hi, hg⟩ := Option.bind_eq_some_iff.1 hg
         first
           | (obtain ⟨_, he⟩ := opt_some hg; cases he; done)
           | skip)
    · rename_i q0 _
      obtain ⟨t, g1, g2⟩ := Option.bind_eq_some_iff.1 q0
      obtain ⟨hb, he⟩ := opt_some hg
      cases he
      obtain ⟨d0, s0, hxs, hd, hs⟩ := mapO_two hargs
      exact (copy_sound h ha hop g1 g2 hi hxs hd hs hE hr).wp hK
end
end Go.Fm
end

section
/- FM: looks, all; they see the same where what they look at is the same, or at rest. -/
set_option autoImplicit false
namespace Go.Fm

def readOp (g : HeapF) (ρ : Opd → V) : COp → Option V
  | .ld agg n x => (cellsAt g (ρ x)).bind (takeN agg n)
  | .lenm x => (mapOf g (ρ x)).map fun es => .int .i64 (es.length : Int)
  | .look ok zero n m k => (mapOf g (ρ m)).bind fun es => if isKey n (ρ k) then (mapGet n es (ρ k)).map fun r => (if ok then .tup [r.getD zero, .bool r.isSome] else r.getD zero) else none
  | .b2s x => (bytesAt g (ρ x)).map .str
  | _ => none

section
variable {P : Program} {w : World} {c : Cx} {H : HeapF} {env : Nat → V} {a : Act} {op : Oper} {T : FuncId → Option Def} {call : Caller} {ρ : Opd → V} {nx : Nat} {L : Heap} {v : V}

theorem exec_read {o : COp} (hc : cls o = .r) {r : Out} (hr : exec T call ρ L nx o = some r) : readOp L.get ρ o = some r.1 ∧ r.2 = (L, nx, []) := by
  refine ⟨?_, exec_r hc hr⟩
  cases o <;> try (cases hc; done)
  case ld ag n x =>
    simp only [exec, Option.bind_eq_some_iff, Option.map_eq_some_iff] at hr
    obtain ⟨cs, h1, y, h2, rfl⟩ := hr
    simp [readOp, h1, h2]
  case look ok zr kk m k =>
    simp only [exec, Option.bind_eq_some_iff] at hr
    obtain ⟨es, h1, hr⟩ := hr
    split at hr
    · rename_i hk
      obtain ⟨q, h2, rfl⟩ := Option.map_eq_some_iff.1 hr
      simp [readOp, h1, hk, h2]
    · cases hr
  case lenm x =>
    simp only [exec, Option.map_eq_some_iff] at hr
    obtain ⟨es, h1, rfl⟩ := hr
    simp [readOp, h1]
  case b2s x =>
    simp only [exec, Option.map_eq_some_iff] at hr
    obtain ⟨es, h1, rfl⟩ := hr
    simp [readOp, h1]

/-- What may be seen in its stead. -/
def AsGood (g g' : HeapF) (v : V) : Prop := ∀ id, refOf v = some id → ∀ th, g id = some th → g' id = some th ∨ g' id = some th.frozen

theorem cellsAt_same {g g' : HeapF} {v : V} (h : AsGood g g' v) {cs : List V} (hc : cellsAt g v = some cs) : cellsAt g' v = some cs := by
  cases v <;> try exact hc
  case pt id idx sub =>
    simp only [cellsAt] at hc ⊢
    cases hg : g id with
    | none => rw [hg] at hc; cases hc
    | some th =>
      rw [hg] at hc
      rcases h id rfl th hg with h1 | h1 <;> rw [h1]
      · exact hc
      · cases th <;> exact hc
theorem mapOf_same {g g' : HeapF} {v : V} (h : AsGood g g' v) {es : List (V × V)} (hc : mapOf g v = some es) : mapOf g' v = some es := by
  cases v <;> try exact hc
  case mp id =>
    simp only [mapOf] at hc ⊢
    cases hg : g id with
    | none => rw [hg] at hc; cases hc
    | some th =>
      rw [hg] at hc
      rcases h id rfl th hg with h1 | h1 <;> rw [h1]
      · exact hc
      · cases th <;> exact hc
theorem bytesAt_same {g g' : HeapF} {v : V} (h : AsGood g g' v) {s : List UInt8} (hc : bytesAt g v = some s) : bytesAt g' v = some s := by
  cases v <;> try exact hc
  case sl id sz off len =>
    simp only [bytesAt] at hc ⊢
    cases hg : g id with
    | none => rw [hg] at hc; cases hc
    | some th =>
      rw [hg] at hc
      rcases h id rfl th hg with h1 | h1 <;> rw [h1]
      · exact hc
      · cases th <;> exact hc

theorem readOp_same {g g' : HeapF} {o : COp} (h : ∀ x ∈ looked o, AsGood g g' (ρ x)) (hr : readOp g ρ o = some v) : readOp g' ρ o = some v := by
  cases o <;> try exact hr
  case ld ag n x =>
    simp only [readOp, Option.bind_eq_some_iff] at hr ⊢
    obtain ⟨cs, h1, h2⟩ := hr
    exact ⟨cs, cellsAt_same (h x (by simp [looked])) h1, h2⟩
  case look ok zr kk m k =>
    simp only [readOp, Option.bind_eq_some_iff] at hr ⊢
    obtain ⟨es, h1, h2⟩ := hr
    exact ⟨es, mapOf_same (h m (by simp [looked])) h1, h2⟩
  case lenm x =>
    simp only [readOp, Option.map_eq_some_iff] at hr ⊢
    obtain ⟨es, h1, h2⟩ := hr
    exact ⟨es, mapOf_same (h x (by simp [looked])) h1, h2⟩
  case b2s x =>
    simp only [readOp, Option.map_eq_some_iff] at hr ⊢
    obtain ⟨es, h1, h2⟩ := hr
    exact ⟨es, bytesAt_same (h x (by simp [looked])) h1, h2⟩

theorem bytesAt_elems {g : HeapF} {v : V} {s : List UInt8} (h : bytesAt g v = some s) : ∃ es ids, elemsOf g 1 v = some (es, ids) ∧ bytesOf es = some s ∧ ∀ s', v ≠ .str s' := by
  cases v <;> simp only [bytesAt, reduceCtorEq] at h
  case nilsl => cases h; exact ⟨[], [], rfl, rfl, fun _ => V.noConfusion⟩
  case z => cases h; exact ⟨[], [], rfl, rfl, fun _ => V.noConfusion⟩
  case arr f sz es =>
    split at h
    · rename_i hc
      obtain ⟨h1, rfl⟩ := hc
      exact ⟨es, [], by simp [elemsOf, h1], h, fun _ => V.noConfusion⟩
    · cases h
  case sl id sz off len =>
    split at h
    · rename_i hg
      split at h
      · rename_i hc
        obtain ⟨rfl, rfl, hl⟩ := hc
        exact ⟨_, [], by simp [elemsOf, hg, hl], h, fun _ => V.noConfusion⟩
      · cases h
    · cases h

/-- Looks, all. -/
theorem r_sound (h : Heaps w c H) {g : Op} {o : COp} (hg : cOp P g = some o) (hop : op.op = g) (hE : EnvR w c env a) (hcl : cls o = .r) (hr : readOp H (opd env) o = some v) : Pure P w c a op v := by
  have hk := cOp_kind hg
  cases o <;> try (cases hcl; done)
  case ld ag n x =>
    cases g <;> first | (exfalso; revert hk; simp [kindsOf, kind]; done) | skip
    simp only [cOp, Option.bind_eq_some_iff, Option.map_eq_some_iff] at hg
    obtain ⟨x', hx, i, hi, ag', hag, he⟩ := hg
    cases he
    simp only [readOp, Option.bind_eq_some_iff] at hr
    obtain ⟨cs, h1, h2⟩ := hr
    obtain ⟨v', k1, k2⟩ := load_sound (P := P) h (opd_sound hE hx) h1 hi hag h2
    exact ⟨v', by simp only [execOp, hop, Sem.run_bind, k1]; rfl, k2⟩
  case look ok zr kk m k =>
    cases g <;> first | (exfalso; revert hk; simp [kindsOf, kind]; done) | skip
    simp only [cOp] at hg
    split at hg
    · rename_i hu
      simp only [Option.bind_eq_some_iff, Option.map_eq_some_iff] at hg
      obtain ⟨x', hx, k', hk', zr', hz, n, hn, he⟩ := hg
      cases he
      simp only [readOp, Option.bind_eq_some_iff] at hr
      obtain ⟨es, h1, hr⟩ := hr
      split at hr
      · rename_i hkey
        obtain ⟨q, h2, rfl⟩ := Option.map_eq_some_iff.1 hr
        exact p_look h hop hu hx hk' hz hn hE h1 hkey h2
      · cases hr
    · cases hg
  case lenm x =>
    cases g <;> first | (exfalso; revert hk; simp [kindsOf, kind]; done) | skip
    rename_i cl
    obtain ⟨callee, xs, ts⟩ := cl
    simp only [cOp, cCall, Option.bind_eq_some_iff] at hg
    obtain ⟨args', hargs, hg⟩ := hg
    simp only [readOp, Option.map_eq_some_iff] at hr
    obtain ⟨es, h1, rfl⟩ := hr
    repeat' first
      | (cases hg; done)
      | split at hg
    all_goals first
      | (cases hg; done)
      | (obtain ⟨i, hi, hg⟩ := Option.bind_eq_some_iff.1 hg
         obtain ⟨_, he⟩ := opt_some hg
         cases he
         done)
      | (obtain ⟨_, _, hg⟩ := Option.bind_eq_some_iff.1 hg
         obtain ⟨_, _, hg⟩ := Option.bind_eq_some_iff.1 hg
         obtain ⟨_, he⟩ := opt_some hg
         cases he
         done)
      | skip
    cases hg
    rename_i q0
    obtain ⟨t, g1, g2⟩ := Option.bind_eq_some_iff.1 q0
    obtain ⟨x0, hxs, hx⟩ := mapO_one hargs
    exact p_lenm h hop g1 g2 hxs hx hE h1
  case b2s x =>
    cases g <;> first | (exfalso; revert hk; simp [kindsOf, kind]; done) | skip
    simp only [cOp] at hg
    obtain ⟨y, hy, hg⟩ := Option.bind_eq_some_iff.1 hg
    simp only [readOp, Option.map_eq_some_iff] at hr
    obtain ⟨s, h1, rfl⟩ := hr
    obtain ⟨es, ids, q1, q2, q3⟩ := bytesAt_elems h1
    split at hg
    · cases hg
    · rename_i hs hd
      split at hg
      · rename_i he
        cases hg
        exact p_b2s h hop hs he hd hy hE q3 q1 q2
      · cases hg
    · cases hg
end
end Go.Fm
end

section
/- FM: a function's results are read. -/
set_option autoImplicit false
namespace Go.Fm

section
variable {P : Program} {w : World} {c : Cx} {H : HeapF} {a : Act}

theorem loadVar_eq (t : TypeId) (b : Addr) : Instr.loadAt t (.pointer (some b)) = loadVar t b := rfl

theorem result_one (h : Heaps w c H) {s : St} (hH : ∀ id th, s.L.get id = some th → H id = some th) (hE : EnvR w c (look s.env) a) {rv : ResultVar} {cr : CRes} (hc : cRes P rv = some cr) {v : V} (hv : resV s cr = some v) :
    ∃ u, ((match rv with | .tmp t => pure (a.tmps.getD t undef) | .cell q t => do loadVar t (← asAddr (a.tmps.getD q undef))) : Sem Value).run P w = .ok u w ∧ R w c v u := by
  have hL := h.sub hH
  cases rv with
  | tmp t =>
    cases hc
    simp only [resV, Option.some.injEq] at hv
    subst hv
    exact ⟨a.tmps.getD t undef, rfl, hE t⟩
  | cell q t =>
    simp only [cRes, Option.bind_eq_some_iff, Option.map_eq_some_iff] at hc
    obtain ⟨i, hi, ag, hag, rfl⟩ := hc
    simp only [resV, Option.bind_eq_some_iff] at hv
    obtain ⟨cs, h1, h2⟩ := hv
    have hR : R w c (opd (look s.env) (.t q)) (a.tmps.getD q undef) := hE q
    obtain ⟨b, hb, _, _⟩ := cellsAt_sound hL hR h1
    obtain ⟨u, k1, k2⟩ := load_sound (P := P) hL hR h1 hi hag h2
    rw [hb, loadVar_eq] at k1
    refine ⟨u, ?_, k2⟩
    simp only [hb, asAddr, Sem.run_bind, Sem.run_pure, Result.andThen_ok]
    exact k1

theorem results_list (h : Heaps w c H) {s : St} (hH : ∀ id th, s.L.get id = some th → H id = some th) (hE : EnvR w c (look s.env) a) : ∀ {rs : List ResultVar} {crs : List CRes} {vals : List V}, mapO (cRes P) rs = some crs → mapO (resV s) crs = some vals →
    ∃ us : List Value, (rs.mapM fun | .tmp t => pure (a.tmps.getD t undef) | .cell q t => do loadVar t (← asAddr (a.tmps.getD q undef)) : Sem (List Value)).run P w = .ok us w ∧ Rs w c vals us
  | [], crs, vals, hc, hv => by
    cases hc
    cases hv
    exact ⟨[], rfl, Rs.nil _ _⟩
  | rv :: rs, crs, vals, hc, hv => by
    simp only [mapO, Option.bind_eq_some_iff] at hc
    obtain ⟨cr, h1, crs', h2, he⟩ := hc
    cases he
    simp only [mapO, Option.bind_eq_some_iff] at hv
    obtain ⟨v, h3, vals', h4, he⟩ := hv
    cases he
    obtain ⟨u, k1, k2⟩ := result_one h hH hE h1 h3
    obtain ⟨us, k3, k4⟩ := results_list h hH hE h2 h4
    refine ⟨u :: us, ?_, Rs.cons k2 k4⟩
    rw [List.mapM_cons]
    simp only [Sem.run_bind]
    rw [k1]
    simp only [Result.andThen_ok, Sem.run_bind]
    rw [k3]
    rfl

theorem results_sound (h : Heaps w c H) {s : St} (hH : ∀ id th, s.L.get id = some th → H id = some th) (hE : EnvR w c (look s.env) a) {fn : Func} {crs : List CRes} {vals : List V} (hc : mapO (cRes P) fn.results.toList = some crs) (hv : mapO (resV s) crs = some vals) :
    ∃ us, (results fn a.tmps).run P w = .ok (tupled us) w ∧ Rs w c vals us := by
  obtain ⟨us, k1, k2⟩ := results_list h hH hE hc hv
  refine ⟨us, ?_, k2⟩
  unfold results
  rw [Array.mapM_eq_mapM_toList]
  simp only [map_eq_pure_bind, bind_assoc, pure_bind, Sem.run_bind]
  generalize hm : Sem.run P (List.mapM _ fn.results.toList) w = r
  have hr : r = .ok us w := hm.symm.trans k1
  rw [hr]
  simp only [Result.andThen_ok, Sem.run_pure, tupled, List.size_toArray]
  by_cases h1 : us.length = 1
  · simp [h1]
  · simp [h1]
end
end Go.Fm
end

section
/- FM: who is before whom. -/
set_option autoImplicit false
namespace Go.Fm

/-- One step of 'before'. -/
def befOf (acc : Array Nat) (o : Oper) : Nat := o.after.foldl (fun s e => if Region.binds .any e then s ||| 2 ^ e.on ||| acc.getD e.on 0 else s) 0

theorem befs_push {F : Array Nat → Oper → Nat} : ∀ (os : List Oper) (acc : Array Nat), (os.foldl (fun acc o => acc.push (F acc o)) acc).size = acc.size + os.length ∧
    (∀ i, i < acc.size → (os.foldl (fun acc o => acc.push (F acc o)) acc)[i]? = acc[i]?) ∧
    ∀ (i : Nat) (o : Oper), os[i]? = some o → ∃ acc', acc'.size = acc.size + i ∧ (os.foldl (fun acc o => acc.push (F acc o)) acc)[acc.size + i]? = some (F acc' o) ∧ ∀ k, k < acc'.size → acc'[k]? = (os.foldl (fun acc o => acc.push (F acc o)) acc)[k]?
  | [], acc => ⟨rfl, fun _ _ => rfl, fun i o h => by simp at h⟩
  | o :: os, acc => by
    obtain ⟨h1, h2, h3⟩ := befs_push (F := F) os (acc.push (F acc o))
    simp only [List.foldl_cons]
    refine ⟨by rw [h1]; simp; omega, fun i hi => by rw [h2 i (by simp; omega), Array.getElem?_push, if_neg (by omega)], fun i o' hi => ?_⟩
    cases i with
    | zero =>
      simp at hi
      subst hi
      refine ⟨acc, rfl, ?_, fun k hk => ?_⟩
      · rw [Nat.add_zero, h2 _ (by simp), Array.getElem?_push, if_pos rfl]
      · rw [h2 k (by simp; omega), Array.getElem?_push, if_neg (by omega)]
    | succ i =>
      simp at hi
      obtain ⟨acc', g1, g2, g3⟩ := h3 i o' hi
      simp only [Array.size_push] at g1 g2
      refine ⟨acc', by omega, ?_, g3⟩
      rw [show acc.size + (i + 1) = acc.size + 1 + i by omega]
      exact g2

theorem bits_fold (acc : Array Nat) (j : Nat) : ∀ (es : List Edge) (s : Nat), (es.foldl (fun s e => if Region.binds .any e then s ||| 2 ^ e.on ||| acc.getD e.on 0 else s) s).testBit j = true →
    s.testBit j = true ∨ ∃ e ∈ es, Region.binds .any e = true ∧ (e.on = j ∨ (acc.getD e.on 0).testBit j = true)
  | [], s, h => .inl h
  | e :: es, s, h => by
    simp only [List.foldl_cons] at h
    rcases bits_fold acc j es _ h with h1 | ⟨e', h1, h2⟩
    · split at h1
      · rename_i hb
        simp only [Nat.testBit_or, Bool.or_eq_true, Nat.testBit_two_pow, decide_eq_true_eq] at h1
        rcases h1 with (h1 | h1) | h1
        · exact .inl h1
        · exact .inr ⟨e, List.mem_cons_self .., hb, .inl h1⟩
        · exact .inr ⟨e, List.mem_cons_self .., hb, .inr h1⟩
      · exact .inl h1
    · exact .inr ⟨e', List.mem_cons_of_mem _ h1, h2⟩

theorem before_edge {ops : Array Oper} (hb : back ops = true) {i j : Nat} (h : has ((Region.before ops).toList.getD i 0) j = true) : ∃ o, ops[i]? = some o ∧ ∃ e ∈ o.after, Region.binds .any e = true ∧ e.on < i ∧ (e.on = j ∨ has ((Region.before ops).toList.getD e.on 0) j = true) := by
  obtain ⟨h1, _, h3⟩ := befs_push (F := befOf) ops.toList #[]
  have hbe : Region.before ops = ops.toList.foldl (fun acc o => acc.push (befOf acc o)) #[] := by
    unfold Region.before
    rw [← Array.foldl_toList]
    rfl
  rw [← hbe] at h1 h3
  have hi : i < ops.size := by
    rcases Nat.lt_or_ge i ops.size with hlt | hge
    · exact hlt
    · have hn : (Region.before ops).toList[i]? = none := List.getElem?_eq_none (by simp at h1; simp; omega)
      simp [has, List.getD, hn] at h
  have ho : ops.toList[i]? = some ops[i] := by simp [hi]
  obtain ⟨acc', g1, g2, g3⟩ := h3 i ops[i] ho
  simp only [List.size_toArray, List.length_nil, Nat.zero_add] at g1 g2
  refine ⟨ops[i], by simp [hi], ?_⟩
  have hv : (Region.before ops).toList.getD i 0 = befOf acc' ops[i] := by
    simp [List.getD, g2]
  rw [hv] at h
  unfold befOf has at h
  rw [← Array.foldl_toList] at h
  rcases bits_fold acc' j _ 0 h with h0 | ⟨e, he, hbi, hor⟩
  · simp at h0
  · have hlt : e.on < i := by
      unfold back at hb
      have := List.all_eq_true.1 hb (ops[i], i) (by rw [List.mem_zipIdx_iff_getElem?]; exact ho)
      simp only [Array.all_eq_true'] at this
      have := this e (by simpa using he)
      simpa [hbi] using this
    refine ⟨e, by simpa using he, hbi, hlt, hor.imp (fun x => x) fun x => ?_⟩
    unfold has
    have : (Region.before ops).toList.getD e.on 0 = acc'.getD e.on 0 := by
      have := g3 e.on (by omega)
      simp [List.getD, ← this]
    rw [this]
    exact x

/-- What is closed under edges is closed under 'before'. -/
theorem before_closed {ops : Array Oper} (hb : back ops = true) {D : Nat → Prop} (hD : ∀ (i : Nat) (o : Oper), ops[i]? = some o → D i → ∀ e ∈ o.after, Region.binds .any e = true → D e.on) : ∀ (i j : Nat), D i → has ((Region.before ops).toList.getD i 0) j = true → D j := by
  intro i
  induction i using Nat.strongRecOn with
  | _ i ih =>
    intro j hi h
    obtain ⟨o, ho, e, he, hbi, hlt, hor⟩ := before_edge hb h
    have hon := hD i o ho hi e he hbi
    rcases hor with rfl | hor
    · exact hon
    · exact ih e.on hlt j hon hor
end Go.Fm
end

section
/- FM: a region's states, one by one. -/
set_option autoImplicit false
namespace Go.Fm

section
variable {T : FuncId → Option Def} {call : Caller}

/-- The states that a region's operations go through. -/
def Seq (T : FuncId → Option Def) (call : Caller) (cops : List COper) (S : Nat → St) : Prop := ∀ (k : Nat) (o : COper), cops[k]? = some o → stepOp T call o (S k) = some (S (k + 1))

theorem seq_of : ∀ {cops : List COper} {s s' : St}, stepOps T call cops s = some s' → ∃ S : Nat → St, S 0 = s ∧ S cops.length = s' ∧ Seq T call cops S
  | [], s, s', h => by
    cases h
    exact ⟨fun _ => s, rfl, rfl, fun k o h => by simp at h⟩
  | o :: cops, s, s', h => by
    simp only [stepOps, Option.bind_eq_some_iff] at h
    obtain ⟨s1, h1, h2⟩ := h
    obtain ⟨S, g1, g2, g3⟩ := seq_of h2
    refine ⟨fun k => match k with | 0 => s | k + 1 => S k, rfl, g2, fun k o' hk => ?_⟩
    cases k with
    | zero =>
      simp at hk
      subst hk
      simp only [g1]
      exact h1
    | succ k => exact g3 k o' (by simpa using hk)

/-- What one step is: done, or passed over. -/
theorem step_cases {o : COper} {s s' : St} (h : stepOp T call o s = some s') :
    (∃ r, exec T call (opd (look s.env)) s.L s.nx o.op = some r ∧ o.chk.all (fun x => addrOk (opd (look s.env) x) r.2.2.2) = true ∧ s' = { s with env := setDst s.env o.dst r.1, L := r.2.1, nx := r.2.2.1 } ∧
      (∀ g, o.guard = some g → look s.env g.1 = .bool g.2)) ∨
    (s' = { s with env := setDst s.env o.dst .undef } ∧ ∃ g, o.guard = some g ∧ ((∃ b, look s.env g.1 = .bool b ∧ b ≠ g.2) ∨ look s.env g.1 = .undef)) := by
  unfold stepOp at h
  have go : ∀ {x : Option St}, x = some s' → x = ((exec T call (opd (look s.env)) s.L s.nx o.op).bind fun r => if o.chk.all (fun x => addrOk (opd (look s.env) x) r.2.2.2) then some { s with env := setDst s.env o.dst r.1, L := r.2.1, nx := r.2.2.1 } else none) →
      ∃ r, exec T call (opd (look s.env)) s.L s.nx o.op = some r ∧ o.chk.all (fun x => addrOk (opd (look s.env) x) r.2.2.2) = true ∧ s' = { s with env := setDst s.env o.dst r.1, L := r.2.1, nx := r.2.2.1 } := by
    intro x hx he
    rw [hx] at he
    obtain ⟨r, h1, h2⟩ := Option.bind_eq_some_iff.1 he.symm
    split at h2
    · rename_i hc
      cases h2
      exact ⟨r, h1, hc, rfl⟩
    · cases h2
  simp only at h
  split at h
  · rename_i hg
    obtain ⟨r, h1, h2, h3⟩ := go h rfl
    exact .inl ⟨r, h1, h2, h3, fun g e => by rw [hg] at e; cases e⟩
  · rename_i g want hg
    split at h
    · rename_i b hb
      split at h
      · rename_i hbw
        obtain ⟨r, h1, h2, h3⟩ := go h rfl
        refine .inl ⟨r, h1, h2, h3, fun g' e => ?_⟩
        rw [hg] at e
        cases e
        subst hbw
        exact hb
      · rename_i hbw
        cases h
        exact .inr ⟨rfl, (g, want), hg, .inl ⟨b, hb, hbw⟩⟩
    · rename_i hb
      cases h
      exact .inr ⟨rfl, (g, want), hg, .inr hb⟩
    · cases h

theorem look_set (env : Tr V) (d : Option Nat) (v : V) (t : Nat) : look (setDst env d v) t = if d = some t then v else look env t := by
  cases d with
  | none => simp [setDst]
  | some d =>
    simp only [setDst, look, Option.some.injEq]
    by_cases h : d = t
    · subst h; rw [if_pos rfl, Tr.get_put_same]; rfl
    · rw [if_neg h, Tr.get_put_ne _ _ _ _ h]

theorem step_env {o : COper} {s s' : St} (h : stepOp T call o s = some s') {t : Nat} (ht : o.dst ≠ some t) : look s'.env t = look s.env t := by
  rcases step_cases h with ⟨r, _, _, rfl, _⟩ | ⟨rfl, _⟩ <;> simp only [look_set, if_neg ht]
theorem step_bx {o : COper} {s s' : St} (h : stepOp T call o s = some s') : s'.bx = s.bx := by
  rcases step_cases h with ⟨r, _, _, rfl, _⟩ | ⟨rfl, _⟩ <;> rfl
theorem step_top {o : COper} {s s' : St} (h : stepOp T call o s = some s') (hT : Top s.L s.nx) : Top s'.L s'.nx ∧ s.nx ≤ s'.nx := by
  rcases step_cases h with ⟨r, h1, _, rfl, _⟩ | ⟨rfl, _⟩
  · have := exec_kept hT h1
    exact ⟨this.top, this.le⟩
  · exact ⟨hT, Nat.le_refl _⟩

variable {cops : List COper} {S : Nat → St}
theorem seq_env (hS : Seq T call cops S) {i t : Nat} : ∀ k, i ≤ k → k ≤ cops.length → (∀ j o, i ≤ j → j < k → cops[j]? = some o → o.dst ≠ some t) → look (S k).env t = look (S i).env t := by
  intro k
  induction k with
  | zero => intro h1 _ _; have : i = 0 := by omega
            subst this; rfl
  | succ k ih =>
    intro h1 h2 h3
    rcases Nat.lt_or_ge i (k + 1) with hlt | hge
    · have hk : k < cops.length := by omega
      have ho := List.getElem?_eq_getElem hk
      rw [step_env (hS k _ ho) (h3 k _ (by omega) (by omega) ho)]
      exact ih (by omega) (by omega) fun j o a b c => h3 j o a (by omega) c
    · have : i = k + 1 := by omega
      subst this; rfl
theorem seq_top (hS : Seq T call cops S) (h0 : Top (S 0).L (S 0).nx) : ∀ k, k ≤ cops.length → Top (S k).L (S k).nx := by
  intro k
  induction k with
  | zero => intro _; exact h0
  | succ k ih =>
    intro hk
    exact (step_top (hS k _ (List.getElem?_eq_getElem (by omega : k < cops.length))) (ih (by omega))).1
theorem seq_nx (hS : Seq T call cops S) (h0 : Top (S 0).L (S 0).nx) {i : Nat} : ∀ k, i ≤ k → k ≤ cops.length → (S i).nx ≤ (S k).nx := by
  intro k
  induction k with
  | zero => intro h1 _; have : i = 0 := by omega
            subst this; exact Nat.le_refl _
  | succ k ih =>
    intro h1 h2
    rcases Nat.lt_or_ge i (k + 1) with hlt | hge
    · have := ih (by omega) (by omega)
      have := (step_top (hS k _ (List.getElem?_eq_getElem (by omega : k < cops.length))) (seq_top hS h0 k (by omega))).2
      omega
    · have : i = k + 1 := by omega
      subst this; exact Nat.le_refl _
theorem seq_bx (hS : Seq T call cops S) : ∀ k, k ≤ cops.length → (S k).bx = (S 0).bx := by
  intro k
  induction k with
  | zero => intro _; rfl
  | succ k ih =>
    intro hk
    rw [step_bx (hS k _ (List.getElem?_eq_getElem (by omega : k < cops.length))), ih (by omega)]

/-- What is not touched is kept, or comes to rest. -/
theorem seq_kept (hS : Seq T call cops S) (h0 : Top (S 0).L (S 0).nx) {i id : Nat} {th : Thing} (hi : (S i).L.get id = some th) : ∀ k, i ≤ k → k ≤ cops.length →
    (∀ j o, i ≤ j → j < k → cops[j]? = some o → ∀ r, exec T call (opd (look (S j).env)) (S j).L (S j).nx o.op = some r → o.chk.all (fun x => addrOk (opd (look (S j).env) x) r.2.2.2) = true → ¬ id ∈ r.2.2.2) → (S k).L.get id = some th ∨ (S k).L.get id = some th.frozen := by
  intro k
  induction k with
  | zero => intro h1 _ _; have : i = 0 := by omega
            subst this; exact .inl hi
  | succ k ih =>
    intro h1 h2 h3
    rcases Nat.lt_or_ge i (k + 1) with hlt | hge
    · have hk : k < cops.length := by omega
      have ho := List.getElem?_eq_getElem hk
      have ih' := ih (by omega) (by omega) fun j o a b c => h3 j o a (by omega) c
      rcases step_cases (hS k _ ho) with ⟨r, e1, ec, e2, _⟩ | ⟨e2, _⟩
      · have hK := exec_kept (seq_top hS h0 k (by omega)) e1
        have hn := h3 k _ (by omega) (by omega) ho r e1 ec
        rw [e2]
        simp only
        rcases ih' with h | h
        · exact hK.kept id th hn h
        · rcases hK.kept id _ hn h with h' | h'
          · exact .inr h'
          · exact .inr (by rw [Thing.frozen_frozen] at h'; exact h')
      · rw [e2]
        exact ih'
    · have : i = k + 1 := by omega
      subst this; exact .inl hi

/-- A place at which something new is made. -/
def MakesAt (cops : List COper) (S : Nat → St) (j : Nat) (th : Thing) : Prop :=
  ∃ o p, cops[j]? = some o ∧ cls o.op = .a ∧ newOp (opd (look (S j).env)) o.op = some p ∧ p.2 = th ∧ (S (j + 1)).L = (S j).L.put (S j).nx (some th) ∧ (S (j + 1)).nx = (S j).nx + 1 ∧ ∀ g, o.guard = some g → look (S j).env g.1 = .bool g.2

/-- One step that does not write. -/
theorem step_quiet (hS : Seq T call cops S) {j : Nat} {o : COper} (ho : cops[j]? = some o) (hm : cls o.op ≠ .m ∨ ∃ g, o.guard = some g ∧ look (S j).env g.1 ≠ .bool g.2) :
    ((S (j + 1)).L = (S j).L ∧ (S (j + 1)).nx = (S j).nx) ∨ ∃ th, MakesAt cops S j th := by
  rcases step_cases (hS j o ho) with ⟨r, e1, _, e2, e3⟩ | ⟨e2, _⟩
  · have hcls : cls o.op ≠ .m := by
      rcases hm with h | ⟨g, g1, g2⟩
      · exact h
      · exact absurd (e3 g g1) g2
    cases hc : cls o.op with
    | p =>
      obtain ⟨v, _, rfl⟩ := exec_p hc e1
      rw [e2]
      exact .inl ⟨rfl, rfl⟩
    | r =>
      have := exec_r hc e1
      rw [e2]
      simp only [this]
      exact .inl ⟨trivial, trivial⟩
    | a =>
      obtain ⟨p, hp, rfl⟩ := exec_a hc e1
      right
      exact ⟨p.2, o, p, ho, hc, hp, rfl, by rw [e2], by rw [e2], e3⟩
    | m => exact absurd hc hcls
  · rw [e2]
    exact .inl ⟨rfl, rfl⟩

/-- A stretch without writes: below, all is as it was; above, what was made on the way. -/
theorem seq_quiet (hS : Seq T call cops S) (h0 : Top (S 0).L (S 0).nx) {i : Nat} : ∀ k, i ≤ k → k ≤ cops.length →
    (∀ j o, i ≤ j → j < k → cops[j]? = some o → cls o.op ≠ .m ∨ ∃ g, o.guard = some g ∧ look (S j).env g.1 ≠ .bool g.2) →
    (∀ id, id < (S i).nx → (S k).L.get id = (S i).L.get id) ∧ ∀ id, (S i).nx ≤ id → id < (S k).nx → ∃ j th, i ≤ j ∧ j < k ∧ MakesAt cops S j th ∧ id = (S j).nx ∧ (S k).L.get id = some th := by
  intro k
  induction k with
  | zero => intro h1 _ _; have : i = 0 := by omega
            subst this; exact ⟨fun _ _ => rfl, fun id a b => by omega⟩
  | succ k ih =>
    intro h1 h2 h3
    rcases Nat.lt_or_ge i (k + 1) with hlt | hge
    · have hk : k < cops.length := by omega
      have ho := List.getElem?_eq_getElem hk
      obtain ⟨g1, g2⟩ := ih (by omega) (by omega) fun j o a b c => h3 j o a (by omega) c
      have hnx := seq_nx hS h0 (i := i) k (by omega) (by omega)
      rcases step_quiet hS ho (h3 k _ (by omega) (by omega) ho) with ⟨e1, e2⟩ | ⟨th, hM⟩
      · rw [e1, e2]
        refine ⟨g1, fun id a b => ?_⟩
        obtain ⟨j, th, y1, y2, y3⟩ := g2 id a b
        exact ⟨j, th, y1, by omega, y3⟩
      · have hM' := hM
        obtain ⟨o, p, _, _, _, _, e1, e2, _⟩ := hM'
        rw [e1, e2]
        refine ⟨fun id a => by rw [Tr.get_put_ne _ _ _ _ (by omega)]; exact g1 id a, fun id a b => ?_⟩
        by_cases hid : id = (S k).nx
        · subst hid
          exact ⟨k, th, by omega, by omega, hM, rfl, Tr.get_put_same _ _ _⟩
        · obtain ⟨j, th', y1, y2, y3, y4, y5⟩ := g2 id a (by omega)
          exact ⟨j, th', y1, by omega, y3, y4, by rw [Tr.get_put_ne _ _ _ _ (fun e => hid e.symm)]; exact y5⟩
    · have : i = k + 1 := by omega
      subst this; exact ⟨fun _ _ => rfl, fun id a b => by omega⟩
end
end Go.Fm
end

section
/- FM: a region at every order. -/
set_option autoImplicit false
namespace Go.Fm

/-- Half way through a region: D has been done. -/
structure Mid (cops : List COper) (S : Nat → St) (D : Nat → Prop) (a : Act) (w : World) (c : Cx) (H : HeapF) (q : Nat) : Prop where
  qle : q ≤ cops.length
  wrote : ∀ k o, D k → cops[k]? = some o → cls o.op = .m → k < q
  done : ∀ k o, k < q → cops[k]? = some o → (cls o.op = .m ∨ cls o.op = .a) → D k
  heaps : Heaps w c H
  low : ∀ id, id < (S q).nx → H id = (S q).L.get id
  new : ∀ k th, q ≤ k → D k → MakesAt cops S k th → H (S k).nx = some th
  num : ∀ id, c.A id ↔ id < (S q).nx ∨ ∃ k th, q ≤ k ∧ D k ∧ MakesAt cops S k th ∧ id = (S k).nx
  env : ∀ t, (∃ k o, D k ∧ cops[k]? = some o ∧ o.dst = some t ∧ (∀ k' o', D k' → k < k' → cops[k']? = some o' → o'.dst ≠ some t) ∧ R w c (look (S (k + 1)).env t) (a.eval (.tmp t))) ∨
    ((∀ k o, D k → cops[k]? = some o → o.dst ≠ some t) ∧ R w c (look (S 0).env t) (a.eval (.tmp t)))

section
variable {T : FuncId → Option Def} {call : Caller} {cops : List COper} {S : Nat → St} {D : Nat → Prop} {a : Act} {w : World} {c : Cx} {H : HeapF} {q : Nat}

/-- What a place looks at is what it looks at in the order that was laid. -/
theorem Mid.look (h : Mid cops S D a w c H q) (hS : Seq T call cops S) {k t : Nat} (hk : k ≤ cops.length) (hiff : ∀ j o, cops[j]? = some o → o.dst = some t → (D j ↔ j < k)) : R w c (Fm.look (S k).env t) (a.eval (.tmp t)) := by
  rcases h.env t with ⟨j, o, h1, h2, h3, h4, h5⟩ | ⟨h1, h2⟩
  · have hj := (hiff j o h2 h3).1 h1
    rw [seq_env hS (i := j + 1) k (by omega) hk fun j' o' a1 a2 a3 a4 => h4 j' o' ((hiff j' o' a3 a4).2 a2) (by omega) a3 a4]
    exact h5
  · rw [seq_env hS (i := 0) k (by omega) hk fun j o _ a2 a3 a4 => h1 j o ((hiff j o a3 a4).2 a2) a3 a4]
    exact h2

theorem eval_put {d : Option Nat} {v : Value} {t : Nat} : (a.put d v).eval (.tmp t) = if d = some t ∧ t < a.tmps.size then v else a.eval (.tmp t) := by
  cases d with
  | none => simp [Act.put]
  | some d =>
    simp only [Act.put, Act.eval, Option.some.injEq]
    by_cases h : d = t
    · subst h
      by_cases h2 : d < a.tmps.size
      · simp [h2]
      · simp [h2]
    · simp [h, Array.getD_eq_getD_getElem?]

/-- The environment, one operation later. -/
theorem Mid.env_put (h : Mid cops S D a w c H q) {w' : World} {c' : Cx} (he : Ext c c') (hk : Keep c w w') {k : Nat} {o : COper} (ho : cops[k]? = some o) (hnew : ∀ j o' d, D j → cops[j]? = some o' → o.dst = some d → o'.dst = some d → j < k) {v : Value}
    (hd : ∀ d, o.dst = some d → d < a.tmps.size ∧ R w' c' (Fm.look (S (k + 1)).env d) v) (t : Nat) :
    (∃ k' o', (D k' ∨ k' = k) ∧ cops[k']? = some o' ∧ o'.dst = some t ∧ (∀ j o1, (D j ∨ j = k) → k' < j → cops[j]? = some o1 → o1.dst ≠ some t) ∧ R w' c' (Fm.look (S (k' + 1)).env t) ((a.put o.dst v).eval (.tmp t))) ∨
    ((∀ j o', (D j ∨ j = k) → cops[j]? = some o' → o'.dst ≠ some t) ∧ R w' c' (Fm.look (S 0).env t) ((a.put o.dst v).eval (.tmp t))) := by
  by_cases hdt : o.dst = some t
  · obtain ⟨h1, h2⟩ := hd t hdt
    refine .inl ⟨k, o, .inr rfl, ho, hdt, fun j o1 hj hlt hoj hdj => ?_, by rw [eval_put, if_pos ⟨hdt, h1⟩]; exact h2⟩
    rcases hj with hj | hj
    · have := hnew j o1 t hj hoj hdt hdj
      omega
    · omega
  · have hev : (a.put o.dst v).eval (.tmp t) = a.eval (.tmp t) := by rw [eval_put, if_neg (fun x => hdt x.1)]
    rw [hev]
    rcases h.env t with ⟨j, o1, h1, h2, h3, h4, h5⟩ | ⟨h1, h2⟩
    · refine .inl ⟨j, o1, .inl h1, h2, h3, fun j' o2 hj' hlt hoj => ?_, h5.ext he hk⟩
      rcases hj' with hj' | rfl
      · exact h4 j' o2 hj' hlt hoj
      · rw [ho] at hoj
        cases hoj
        exact hdt
    · refine .inr ⟨fun j o2 hj hoj => ?_, h2.ext he hk⟩
      rcases hj with hj | rfl
      · exact h1 j o2 hj hoj
      · rw [ho] at hoj
        cases hoj
        exact hdt

/-- An operation that makes nothing, writes nothing. -/
theorem Mid.quiet (h : Mid cops S D a w c H q) {k : Nat} {o : COper} (ho : cops[k]? = some o) (hm : cls o.op ≠ .m) (hmk : ∀ th, ¬ MakesAt cops S k th) (hnew : ∀ j o' d, D j → cops[j]? = some o' → o.dst = some d → o'.dst = some d → j < k) {v : Value}
    (hd : ∀ d, o.dst = some d → d < a.tmps.size ∧ R w c (Fm.look (S (k + 1)).env d) v) : Mid cops S (fun j => D j ∨ j = k) (a.put o.dst v) w c H q := by
  refine ⟨h.qle, fun j o' hj hoj hcl => ?_, fun j o' hj hoj hcl => .inl (h.done j o' hj hoj hcl), h.heaps, h.low, fun j th hq hj hM => ?_, fun id => ?_, h.env_put (Ext.refl c) (Keep.refl c w) ho hnew hd⟩
  · rcases hj with hj | rfl
    · exact h.wrote j o' hj hoj hcl
    · rw [ho] at hoj
      cases hoj
      exact absurd hcl hm
  · rcases hj with hj | rfl
    · exact h.new j th hq hj hM
    · exact absurd hM (hmk th)
  · rw [h.num]
    constructor
    · rintro (h1 | ⟨j, th, h1, h2, h3⟩)
      · exact .inl h1
      · exact .inr ⟨j, th, h1, .inl h2, h3⟩
    · rintro (h1 | ⟨j, th, h1, h2 | rfl, h3, h4⟩)
      · exact .inl h1
      · exact .inr ⟨j, th, h1, h2, h3, h4⟩
      · exact absurd h3 (hmk th)

/-- Two places never make at one number. -/
theorem makes_ne (hS : Seq T call cops S) (h0 : Top (S 0).L (S 0).nx) {j k : Nat} {th th' : Thing} (hj : MakesAt cops S j th) (hk : MakesAt cops S k th') (h : j < k) : (S j).nx < (S k).nx := by
  obtain ⟨_, _, _, _, _, _, _, e2, _⟩ := hj
  obtain ⟨o', _, ho', _⟩ := hk
  have := seq_nx hS h0 (i := j + 1) k (by omega) (by have := (List.getElem?_eq_some_iff.1 ho').1; omega)
  omega

/-- An operation that makes something. -/
theorem Mid.make (h : Mid cops S D a w c H q) (hS : Seq T call cops S) (h0 : Top (S 0).L (S 0).nx) {k : Nat} {o : COper} {th : Thing} (ho : cops[k]? = some o) (hM : MakesAt cops S k th) (hkD : ¬ D k) {w' : World} {l : Loc} (hst : Step w c H w' (c.add (S k).nx l) (updH H (S k).nx (some th)))
    (hA : ¬ c.A (S k).nx) (hnew : ∀ j o' d, D j → cops[j]? = some o' → o.dst = some d → o'.dst = some d → j < k) {v : Value}
    (hd : ∀ d, o.dst = some d → d < a.tmps.size ∧ R w' (c.add (S k).nx l) (Fm.look (S (k + 1)).env d) v) : Mid cops S (fun j => D j ∨ j = k) (a.put o.dst v) w' (c.add (S k).nx l) (updH H (S k).nx (some th)) q := by
  have hcls : cls o.op = .a := by
    obtain ⟨o1, _, ho1, hc, _⟩ := hM
    rw [ho] at ho1
    cases ho1
    exact hc
  have hkl : k < cops.length := (List.getElem?_eq_some_iff.1 ho).1
  have hqk : q ≤ k := by
    rcases Nat.lt_or_ge k q with hlt | hge
    · exact absurd (h.done k o hlt ho (.inr hcls)) hkD
    · exact hge
  have hnx := seq_nx hS h0 (i := q) k hqk (by omega)
  refine ⟨h.qle, fun j o' hj hoj hcl => ?_, fun j o' hj hoj hcl => .inl (h.done j o' hj hoj hcl), hst.heaps, fun id hid => ?_, fun j th' hq hj hMj => ?_, fun id => ?_, h.env_put hst.ext (Step.keep h.heaps hst) ho hnew hd⟩
  · rcases hj with hj | rfl
    · exact h.wrote j o' hj hoj hcl
    · rw [ho] at hoj
      cases hoj
      rw [hcls] at hcl
      cases hcl
  · rw [updH_ne _ _ (by omega)]
    exact h.low id hid
  · rcases hj with hj | rfl
    · have hne : (S j).nx ≠ (S k).nx := by
        have hjk : j ≠ k := fun e => hkD (e ▸ hj)
        rcases Nat.lt_or_gt_of_ne hjk with hlt | hgt
        · have := makes_ne hS h0 hMj hM hlt; omega
        · have := makes_ne hS h0 hM hMj hgt; omega
      rw [updH_ne _ _ hne]
      exact h.new j th' hq hj hMj
    · rw [updH_same]
      obtain ⟨o1, p1, e1, _, e2, e3, _⟩ := hM
      obtain ⟨o2, p2, e4, _, e5, e6, _⟩ := hMj
      rw [e1] at e4
      cases e4
      rw [e2] at e5
      cases e5
      rw [← e3, ← e6]
  · show (id = (S k).nx ∨ c.A id) ↔ _
    rw [h.num]
    constructor
    · rintro (rfl | h1 | ⟨j, th', h1, h2, h3⟩)
      · exact .inr ⟨k, th, hqk, .inr rfl, hM, rfl⟩
      · exact .inl h1
      · exact .inr ⟨j, th', h1, .inl h2, h3⟩
    · rintro (h1 | ⟨j, th', h1, h2 | rfl, h3, h4⟩)
      · exact .inr (.inl h1)
      · exact .inr (.inr ⟨j, th', h1, h2, h3, h4⟩)
      · exact .inl h4

/-- Ahead of a write all that writes, all that makes has been done: the heap is as it is in the order that was laid. -/
theorem Mid.at (h : Mid cops S D a w c H q) (hS : Seq T call cops S) (h0 : Top (S 0).L (S 0).nx) {k : Nat} (hk : k ≤ cops.length) (hq : q ≤ k) (hD : ∀ j o, j < k → cops[j]? = some o → (cls o.op = .m ∨ cls o.op = .a) → D j) :
    Agree (S k).nx (S k).L H ∧ ∀ id, id < (S k).nx → c.A id := by
  obtain ⟨g1, g2⟩ := seq_quiet hS h0 (i := q) k hq hk fun j o h1 h2 h3 => .inl fun hc => by
    have := h.wrote j o (hD j o h2 h3 (.inl hc)) h3 hc
    omega
  have done : ∀ {j th}, q ≤ j → j < k → MakesAt cops S j th → D j := by
    intro j th h1 h2 hM
    obtain ⟨o, _, ho, hc, _⟩ := hM
    exact hD j o h2 ho (.inr hc)
  refine ⟨⟨fun id hid => ?_, seq_top hS h0 k hk⟩, fun id hid => ?_⟩
  · rcases Nat.lt_or_ge id (S q).nx with hlt | hge
    · rw [h.low id hlt, g1 id hlt]
    · obtain ⟨j, th, y1, y2, y3, rfl, y5⟩ := g2 id hge hid
      rw [y5]
      exact h.new j th y1 (done y1 y2 y3) y3
  · rw [h.num]
    rcases Nat.lt_or_ge id (S q).nx with hlt | hge
    · exact .inl hlt
    · obtain ⟨j, th, y1, y2, y3, y4, y5⟩ := g2 id hge hid
      exact .inr ⟨j, th, y1, done y1 y2 y3, y3, y4⟩

/-- An operation that writes: the cut moves behind it. -/
theorem Mid.write (h : Mid cops S D a w c H q) (hS : Seq T call cops S) (h0 : Top (S 0).L (S 0).nx) {k : Nat} {o : COper} (ho : cops[k]? = some o) (hcls : cls o.op = .m) (hkD : ¬ D k) (hq : q ≤ k) (hD : ∀ j o, j < k → cops[j]? = some o → (cls o.op = .m ∨ cls o.op = .a) → D j)
    (hM : ∀ j o, D j → cops[j]? = some o → cls o.op = .m → j < k) {w' : World} {c' : Cx} {H' : HeapF} {touched : List Nat} (hdid : Did w c H (S k).nx (S k).L w' c' H' (S (k + 1)).nx (S (k + 1)).L touched)
    (hnew : ∀ j o' d, D j → cops[j]? = some o' → o.dst = some d → o'.dst = some d → j < k) {v : Value} (hd : ∀ d, o.dst = some d → d < a.tmps.size ∧ R w' c' (Fm.look (S (k + 1)).env d) v) :
    Mid cops S (fun j => D j ∨ j = k) (a.put o.dst v) w' c' H' (k + 1) := by
  have hkl : k < cops.length := (List.getElem?_eq_some_iff.1 ho).1
  obtain ⟨hag, hA⟩ := h.at hS h0 (by omega) hq hD
  refine ⟨by omega, fun j o' hj hoj hcl => ?_, fun j o' hj hoj hcl => ?_, hdid.step.heaps, hdid.agree.low, fun j th hq' hj hMj => ?_, fun id => ?_, h.env_put hdid.step.ext (Step.keep h.heaps hdid.step) ho hnew hd⟩
  · rcases hj with hj | rfl
    · have := hM j o' hj hoj hcl; omega
    · omega
  · rcases Nat.lt_or_ge j k with hlt | hge
    · exact .inl (hD j o' hlt hoj hcl)
    · exact .inr (by omega)
  · have hj' : D j := by
      rcases hj with hj | rfl
      · exact hj
      · omega
    have hnx := seq_nx hS h0 (i := k + 1) j hq' (by
      obtain ⟨o1, _, ho1, _⟩ := hMj
      have := (List.getElem?_eq_some_iff.1 ho1).1; omega)
    rw [hdid.top _ hnx]
    exact h.new j th (by omega) hj' hMj
  · rw [hdid.A, h.num]
    have hnx1 := hdid.le
    have hnx0 := seq_nx hS h0 (i := q) k hq (by omega)
    constructor
    · rintro ((h1 | ⟨j, th, h1, h2, h3, h4⟩) | h1)
      · exact .inl (by omega)
      · rcases Nat.lt_trichotomy j k with hlt | heq | hgt
        · have := seq_nx hS h0 (i := j + 1) k (by omega) (by omega)
          obtain ⟨_, _, _, _, _, _, _, e2, _⟩ := h3
          exact .inl (by omega)
        · exact absurd (heq ▸ h2) hkD
        · exact .inr ⟨j, th, by omega, .inl h2, h3, h4⟩
      · exact .inl h1.2
    · rintro (h1 | ⟨j, th, h1, h2 | rfl, h3, h4⟩)
      · rcases Nat.lt_or_ge id (S k).nx with hlt | hge
        · exact .inl ((h.num id).1 (hA id hlt))
        · exact .inr ⟨hge, h1⟩
      · exact .inl (.inr ⟨j, th, by omega, h2, h3, h4⟩)
      · omega
end
end Go.Fm
end

section
/- FM: a region, done at every order. -/
set_option autoImplicit false
namespace Go.Fm

/-! ### Places -/
theorem pig : ∀ (n : Nat) (l : List Nat), (∀ i, i < n → i ∈ l) → n ≤ l.length
  | 0, _, _ => Nat.zero_le _
  | n + 1, l, h => by
    have hn : n ∈ l := h n (by omega)
    have := pig n (l.erase n) fun i hi => (List.mem_erase_of_ne (by omega)).2 (h i (by omega))
    rw [List.length_erase_of_mem hn] at this
    have : 0 < l.length := List.length_pos_of_mem hn
    omega
theorem pig_inj {n : Nat} {l : List Nat} (h : ∀ i, i < n → i ∈ l) (hl : l.length ≤ n) {j k a : Nat} (hj : l[j]? = some a) (hk : l[k]? = some a) : j = k := by
  have key : ∀ {j k : Nat}, j < k → l[j]? = some a → l[k]? = some a → False := by
    intro j k hlt hj hk
    have hkl := (List.getElem?_eq_some_iff.1 hk).1
    have := pig n (l.eraseIdx k) fun i hi => by
      rw [List.mem_eraseIdx_iff_getElem?]
      obtain ⟨m, hm⟩ := List.mem_iff_getElem?.1 (h i hi)
      by_cases hmk : m = k
      · subst hmk
        rw [hk] at hm
        cases hm
        exact ⟨j, by omega, hj⟩
      · exact ⟨m, hmk, hm⟩
    rw [List.length_eraseIdx, if_pos hkl] at this
    omega
  rcases Nat.lt_trichotomy j k with h1 | h1 | h1
  · exact (key h1 hj hk).elim
  · exact h1
  · exact (key h1 hk hj).elim

theorem ite_some {α : Type} {p : Prop} [Decidable p] {x : Option α} {r : α} (h : (if p then x else none) = some r) : p ∧ x = some r := by
  split at h
  · exact ⟨by assumption, h⟩
  · cases h

theorem laid_get {ops : Array Oper} {cs : List COp} {bef : List Nat} : ∀ {l ahead : List Nat} {cops : List COper}, laid ops cs bef ahead l = some cops →
    cops.length = l.length ∧ ∀ (k i : Nat), l[k]? = some i → ∃ o c x, ops[i]? = some o ∧ cs[i]? = some c ∧ cops[k]? = some x ∧ x.dst = o.dst ∧ guardOf ops o = some x.guard ∧ x.op = c
  | [], ahead, cops, h => by
    cases h
    exact ⟨rfl, fun k i h => by simp at h⟩
  | i :: rest, ahead, cops, h => by
    simp only [laid] at h
    split at h
    · rename_i o c ho hc
      obtain ⟨_, h⟩ := ite_some h
      obtain ⟨g, hg, h⟩ := Option.bind_eq_some_iff.1 h
      obtain ⟨l', hl', rfl⟩ := Option.map_eq_some_iff.1 h
      obtain ⟨h1, h2⟩ := laid_get hl'
      refine ⟨by simp [h1], fun k j hk => ?_⟩
      cases k with
      | zero =>
        simp at hk
        subst hk
        exact ⟨o, c, _, ho, hc, rfl, rfl, hg, rfl⟩
      | succ k => exact h2 k j (by simpa using hk)
    · cases h

/-- What is known of an order that was laid. -/
structure Laid (P : Program) (nt : Nat) (ops : Array Oper) (l : List Nat) (cops : List COper) : Prop where
  back : back ops = true
  len : l.length = ops.size
  all : ∀ i, i < ops.size → i ∈ l
  get : ∀ (k i : Nat), l[k]? = some i → ∃ o x, ops[i]? = some o ∧ cops[k]? = some x ∧ x.dst = o.dst ∧ guardOf ops o = some x.guard ∧ x.op = (cOp P o.op).getD .bad
  clen : cops.length = ops.size
  dst : ∀ (k : Nat) (x : COper) (d : Nat), cops[k]? = some x → x.dst = some d → d < nt
  pair : ∀ (i j : Nat), i < j → j < ops.size → pairOk (Region.before ops).toList l cops i j = true

theorem cReg_laid {P : Program} {nt : Nat} {ops : Array Oper} {cops : List COper} (h : cReg P nt ops = some cops) : ∃ l, Laid P nt ops l cops := by
  unfold cReg at h
  simp only at h
  split at h
  · rename_i hb
    obtain ⟨cops', h1, h2⟩ := Option.bind_eq_some_iff.1 h
    split at h2
    · rename_i hr
      cases h2
      obtain ⟨g1, g2⟩ := laid_get h1
      unfold regOk at hr
      simp only [Bool.and_eq_true, decide_eq_true_eq, List.all_eq_true, List.mem_range, List.contains_eq_mem] at hr
      obtain ⟨⟨⟨⟨r1, r2⟩, r3⟩, r4⟩, r5⟩ := hr
      refine ⟨_, hb, r1, r3, fun k i hk => ?_, r2, fun k x d hk hd => ?_, fun i j hij hj => r5 j hj i hij⟩
      · obtain ⟨o, c, x, e1, e2, e3, e4, e5, e6⟩ := g2 k i hk
        refine ⟨o, x, e1, e3, e4, e5, ?_⟩
        rw [List.getElem?_map, Array.getElem?_toList, e1] at e2
        cases e2
        exact e6
      · have hkl : k < ops.size := by rw [← r2]; exact (List.getElem?_eq_some_iff.1 hk).1
        have hp := r4 k hkl
        unfold placeOk at hp
        rw [hk] at hp
        split at hp
        · rename_i q1 q2
          cases q1
          simp only [Bool.and_eq_true] at hp
          obtain ⟨p1, p2⟩ := hp
          have p1' : x.dst = _ := eq_of_beq p1
          rw [hd] at p1'
          rw [← p1'] at p2
          simpa using p2
        · cases hp
    · cases h2
  · cases h

section
variable {P : Program} {nt : Nat} {ops : Array Oper} {l : List Nat} {cops : List COper}

theorem Laid.at (h : Laid P nt ops l cops) {k : Nat} (hk : k < ops.size) : ∃ i, l[k]? = some i := ⟨_, List.getElem?_eq_getElem (by rw [h.len]; exact hk)⟩
theorem Laid.inj (h : Laid P nt ops l cops) {j k i : Nat} (hj : l[j]? = some i) (hk : l[k]? = some i) : j = k := pig_inj h.all (Nat.le_of_eq h.len) hj hk
theorem Laid.lt (h : Laid P nt ops l cops) {k i : Nat} (hk : l[k]? = some i) : k < ops.size := by rw [← h.len]; exact (List.getElem?_eq_some_iff.1 hk).1
theorem Laid.lt' (h : Laid P nt ops l cops) {k : Nat} {x : COper} (hk : cops[k]? = some x) : k < ops.size := by rw [← h.clen]; exact (List.getElem?_eq_some_iff.1 hk).1

/-- Done places are closed: what must come ahead of a done one is done. -/
def ClosedD (ops : Array Oper) (D : Nat → Prop) : Prop := ∀ (i : Nat) (o : Oper), ops[i]? = some o → D i → ∀ e ∈ o.after, Region.binds .any e = true → D e.on

/-- The places that are done, of the operations that are. -/
def atD (l : List Nat) (D : Nat → Prop) (k : Nat) : Prop := ∃ i, l[k]? = some i ∧ D i

/-- One place ahead of another one that is done, or the one that is next: what is not before is apart. -/
theorem Laid.ahead (h : Laid P nt ops l cops) {D : Nat → Prop} (hD : ClosedD ops D) {i : Nat} {o : Oper} (ho : ops[i]? = some o) (hready : ∀ e ∈ o.after, Region.binds .any e = true → D e.on) {k : Nat} (hk : l[k]? = some i) {x : COper} (hx : cops[k]? = some x)
    {j : Nat} {y : COper} (hj : cops[j]? = some y) (hjk : j < k) (hn : ¬ atD l D j) : unordOk y x = true := by
  have hp := h.pair j k hjk (h.lt hk)
  obtain ⟨i', hi'⟩ := h.at (h.lt' hj)
  unfold pairOk at hp
  rw [hj, hx, hi', hk] at hp
  simp only [Bool.and_eq_true, Bool.or_eq_true, Bool.not_eq_true'] at hp
  rcases hp.2 with h1 | h1
  · exfalso
    refine hn ⟨i', hi', ?_⟩
    obtain ⟨o', ho', e, he, hb, _, hor⟩ := before_edge h.back h1
    rw [ho] at ho'
    cases ho'
    rcases hor with rfl | hor
    · exact hready e he hb
    · exact before_closed h.back hD _ _ (hready e he hb) hor
  · exact h1.1
theorem Laid.behind (h : Laid P nt ops l cops) {D : Nat → Prop} (hD : ClosedD ops D) {i : Nat} (hni : ¬ D i) {k : Nat} (hk : l[k]? = some i) {x : COper} (hx : cops[k]? = some x)
    {j : Nat} {y : COper} (hj : cops[j]? = some y) (hkj : k < j) (hd : atD l D j) : unordOk x y = true ∧ chkOk cops k j x y = true := by
  have hp := h.pair k j hkj (h.lt' hj)
  obtain ⟨i', hi', hDi⟩ := hd
  unfold pairOk at hp
  rw [hj, hx, hi', hk] at hp
  simp only [Bool.and_eq_true, Bool.or_eq_true, Bool.not_eq_true'] at hp
  rcases hp.2 with h1 | h1
  · exact absurd (before_closed h.back hD _ _ hDi h1) hni
  · exact h1

theorem unord_spec {x y : COper} (h : unordOk x y = true) : ¬ (cls x.op = .m ∧ cls y.op = .m) ∧ ¬ (cls x.op = .a ∧ cls y.op = .m) ∧ ¬ (cls x.op = .m ∧ cls y.op = .r) ∧
    (∀ d, x.dst = some d → ¬ d ∈ looksC y ∧ y.dst ≠ some d) ∧ (∀ d, y.dst = some d → ¬ d ∈ looksC x) := by
  unfold unordOk apartC at h
  simp only [Bool.and_eq_true, Bool.not_eq_true', Bool.and_eq_false_iff, beq_eq_false_iff_ne, ne_eq] at h
  obtain ⟨⟨⟨h1, h2⟩, h3⟩, h4, h5⟩ := h
  refine ⟨fun e => ?_, fun e => ?_, fun e => ?_, fun d hd => ?_, fun d hd => ?_⟩
  · rcases h1 with h1 | h1
    · exact h1 e.1
    · exact h1 e.2
  · rcases h2 with h1 | h1
    · exact h1 e.1
    · exact h1 e.2
  · rcases h3 with h1 | h1
    · exact h1 e.1
    · exact h1 e.2
  · rw [hd] at h4
    simp only [Bool.and_eq_true, Bool.not_eq_true', bne_iff_ne, ne_eq] at h4
    refine ⟨fun hm => ?_, h4.2⟩
    rw [List.contains_iff_mem.2 hm] at h4
    cases h4.1
  · rw [hd] at h5
    simp only [Bool.not_eq_true'] at h5
    intro hm
    rw [List.contains_iff_mem.2 hm] at h5
    cases h5
end

theorem R.refA {w : World} {c : Cx} {v : V} {u : Value} (h : R w c v u) {id : Nat} (hr : refOf v = some id) : c.A id := by
  cases h <;> first
    | (cases hr; done)
    | (rename_i h; cases hr; exact h.1)

theorem vOf_ref (v : Value) : refOf (vOf v) = none := by
  unfold vOf
  split <;> rfl
theorem vOfs_ref (v : Value) : refOf (vOfs v) = none := by
  unfold vOfs
  split
  · rfl
  · exact vOf_ref _
theorem cOpd_const {x : Operand} {v : V} (h : cOpd x = some (.c v)) : refOf v = none := by
  cases x with
  | tmp t => cases h
  | const u =>
    simp only [cOpd] at h
    split at h
    · cases h; exact vOfs_ref u
    · cases h
  | func f => cases h; rfl
  | global g => cases h

theorem looked_const {P : Program} {g : Op} {o : COp} (hg : cOp P g = some o) {v : V} (hv : Opd.c v ∈ looked o) : refOf v = none := by
  have hk := cOp_kind hg
  cases o <;> try (cases hv; done)
  case ld ag n x =>
    cases g <;> first | (exfalso; revert hk; simp [kindsOf, kind]; done) | skip
    simp only [cOp, Option.bind_eq_some_iff, Option.map_eq_some_iff] at hg
    obtain ⟨x', hx, i, hi, ag', hag, he⟩ := hg
    cases he
    simp only [looked, List.mem_singleton] at hv
    subst hv
    exact cOpd_const hx
  case look ok zr kk m k =>
    cases g <;> first | (exfalso; revert hk; simp [kindsOf, kind]; done) | skip
    simp only [cOp] at hg
    split at hg
    · rename_i hu
      simp only [Option.bind_eq_some_iff, Option.map_eq_some_iff] at hg
      obtain ⟨x', hx, k', hk', zr', hz, n, hn, he⟩ := hg
      cases he
      simp only [looked, List.mem_singleton] at hv
      subst hv
      exact cOpd_const hx
    · cases hg
  case lenm x =>
    cases g <;> first | (exfalso; revert hk; simp [kindsOf, kind]; done) | skip
    rename_i cl
    obtain ⟨callee, xs, ts⟩ := cl
    simp only [cOp, cCall, Option.bind_eq_some_iff] at hg
    obtain ⟨args', hargs, hg⟩ := hg
    repeat' first
      | (cases hg; done)
      | split at hg
    all_goals first
      | (cases hg; done)
      | (obtain ⟨i, hi, hg⟩ := Option.bind_eq_some_iff.1 hg
         obtain ⟨_, he⟩ := opt_some hg
         cases he
         done)
      | (obtain ⟨_, _, hg⟩ := Option.bind_eq_some_iff.1 hg
         obtain ⟨_, _, hg⟩ := Option.bind_eq_some_iff.1 hg
         obtain ⟨_, he⟩ := opt_some hg
         cases he
         done)
      | skip
    cases hg
    obtain ⟨x0, hxs, hx⟩ := mapO_one hargs
    simp only [looked, List.mem_singleton] at hv
    subst hv
    exact cOpd_const hx
  case b2s x =>
    cases g <;> first | (exfalso; revert hk; simp [kindsOf, kind]; done) | skip
    simp only [cOp] at hg
    obtain ⟨y, hy, hg⟩ := Option.bind_eq_some_iff.1 hg
    split at hg
    · cases hg
    · split at hg
      · cases hg
        simp only [looked, List.mem_singleton] at hv
        subst hv
        exact cOpd_const hy
      · cases hg
    · cases hg

theorem looked_opnds {o : COp} {x : Opd} (h : x ∈ looked o) : x ∈ opnds o := by
  cases o <;> simp only [looked, opnds] at h ⊢ <;> first
    | exact h
    | (cases h; done)
    | (simp only [List.mem_cons, List.not_mem_nil, or_false] at h ⊢; exact .inl h)

theorem mem_looksC {x : COper} {t : Nat} (h : Opd.t t ∈ opnds x.op) : t ∈ looksC x := by
  unfold looksC tmpsO
  exact List.mem_append_left _ (List.mem_filterMap.2 ⟨_, h, rfl⟩)
theorem mem_looksG {x : COper} {g : Nat × Bool} (h : x.guard = some g) : g.1 ∈ looksC x := by
  unfold looksC
  rw [h]
  exact List.mem_append_right _ (by simp)

section
variable {P : Program} {T : FuncId → Option Def} {call : Caller} {nt : Nat} {ops : Array Oper} {l : List Nat} {cops : List COper} {S : Nat → St} {a : Act} {w : World} {c : Cx} {H : HeapF} {q : Nat}

/-- What comes of one operation more. -/
def After (cops : List COper) (S : Nat → St) (D : Nat → Prop) (k : Nat) (w : World) (c : Cx) (H : HeapF) (a : Act) (a' : Act) (w' : World) : Prop :=
  ∃ c' H' q', Mid cops S (fun j => D j ∨ j = k) a' w' c' H' q' ∧ Step w c H w' c' H' ∧ a'.tmps.size = a.tmps.size ∧ a'.defers = a.defers

theorem act_size (a : Act) (d : Option Nat) (v : Value) : (a.put d v).tmps.size = a.tmps.size := by
  cases d <;> simp [Act.put]
theorem act_defers (a : Act) (d : Option Nat) (v : Value) : (a.put d v).defers = a.defers := by
  cases d <;> simp [Act.put]

/-- The heap as a look sees it, and as it is. -/
theorem Mid.sees {D : Nat → Prop} (h : Mid cops S D a w c H q) (hS : Seq T call cops S) (h0 : Top (S 0).L (S 0).nx) {k : Nat} {x : COper} (hx : cops[k]? = some x) (hcl : cls x.op = .r) (hnk : ¬ D k)
    (hm : ∀ j y, cops[j]? = some y → cls y.op = .m → ¬ D j → k ≤ j)
    (hchk : ∀ j y, k < j → cops[j]? = some y → D j → chkOk cops k j x y = true) {v : V} {u : Value} (hR : R w c v u) (hv : refOf v = none ∨ ∃ t, Opd.t t ∈ looked x.op ∧ v = Fm.look (S k).env t) : AsGood (S k).L.get H v := by
  intro id hid th hth
  have hkl : k < cops.length := (List.getElem?_eq_some_iff.1 hx).1
  have hA : c.A id := hR.refA hid
  have hidk : id < (S k).nx := (seq_top hS h0 k (by omega)).lt hth
  rcases Nat.lt_or_ge k q with hlt | hge
  · have hle := seq_nx hS h0 (i := k) q (by omega) h.qle
    rw [h.low id (by omega)]
    rcases hv with hv | ⟨t, ht, rfl⟩
    · rw [hv] at hid; cases hid
    refine seq_kept hS h0 hth q (by omega) h.qle fun j y h1 h2 hy r hr hc hmem => ?_
    rcases Nat.lt_or_ge k j with hkj | hkj
    · cases hcy : cls y.op with
      | p => obtain ⟨v, _, rfl⟩ := exec_p hcy hr; simp at hmem
      | r => have := exec_r hcy hr; rw [this] at hmem; simp at hmem
      | a => obtain ⟨p, _, rfl⟩ := exec_a hcy hr; simp at hmem
      | m =>
        have hk := hchk j y hkj hy (h.done j y h2 hy (.inl hcy))
        unfold chkOk at hk
        rw [hcl, hcy] at hk
        simp only [beq_self_eq_true, Bool.and_self, if_true, List.all_eq_true] at hk
        have hk' := hk _ ht
        simp only [Bool.and_eq_true, List.any_eq_true, List.all_eq_true, bne_iff_ne, ne_eq] at hk'
        obtain ⟨⟨z, hz, hzt⟩, hk2⟩ := hk'
        have hzt' : z = .t t := by
          cases z with
          | t t' => simp at hzt; rw [hzt]
          | c v => cases hzt
        subst hzt'
        have hok := List.all_eq_true.1 hc _ hz
        have hlk : Fm.look (S j).env t = Fm.look (S k).env t := seq_env hS (i := k) j (by omega) (by have := h.qle; omega) fun j' o' a1 a2 a3 => hk2 o' (by
          rw [List.mem_iff_getElem?]
          refine ⟨j' - k, ?_⟩
          rw [List.getElem?_drop, List.getElem?_take, if_pos (by omega), show k + (j' - k) = j' by omega]
          exact a3)
        change addrOk (Fm.look (S j).env t) _ = true at hok
        rw [hlk] at hok
        unfold addrOk at hok
        revert hid hok
        cases Fm.look (S k).env t <;> simp only [refOf, reduceCtorEq, Option.some.injEq, false_implies] <;> intro e hok <;> subst e <;> simp [hmem] at hok
    · have : j = k := by omega
      subst this
      rw [hx] at hy
      cases hy
      have := exec_r hcl hr
      rw [this] at hmem
      simp at hmem
  · obtain ⟨g1, g2⟩ := seq_quiet hS h0 (i := q) k hge (by omega) fun j o h1 h2 h3 => .inl fun hc => by
      rcases Classical.em (D j) with hd | hd
      · have := h.wrote j o hd h3 hc
        omega
      · have := hm j o h3 hc hd
        omega
    left
    rcases Nat.lt_or_ge id (S q).nx with hlt | hge2
    · rw [h.low id hlt, ← g1 id hlt]
      exact hth
    · obtain ⟨j, th', y1, y2, y3, rfl, y5⟩ := g2 id hge2 hidk
      rw [hth] at y5
      cases y5
      rcases (h.num _).1 hA with h1 | ⟨j', th2, h1, h2, h3, h4⟩
      · omega
      · have : j' = j := by
          rcases Nat.lt_trichotomy j' j with hlt | heq | hgt
          · have := makes_ne hS h0 h3 y3 hlt; omega
          · exact heq
          · have := makes_ne hS h0 y3 h3 hgt; omega
        subst this
        exact h.new j' _ y1 h2 y3

theorem Did.same {nx : Nat} {L : Heap} (h : Heaps w c H) (ha : Agree nx L H) : Did w c H nx L w c H nx L [] :=
  ⟨Step.refl h, ha, fun _ _ => rfl, fun i => ⟨.inl, fun h => h.elim id fun h => by omega⟩, Nat.le_refl _, fun _ _ _ h => .inl h⟩

/-- One operation that may come next. -/
theorem step_at (hT : ∀ f d, T f = some d → Answers P f (call f)) (hL : Laid P nt ops l cops) (hS : Seq T call cops S) (h0 : Top (S 0).L (S 0).nx) {D : Nat → Prop} (hD : ClosedD ops D) {i : Nat} {o : Oper} (ho : ops[i]? = some o)
    (hready : ∀ e ∈ o.after, Region.binds .any e = true → D e.on) (hni : ¬ D i) (h : Mid cops S (atD l D) a w c H q) (hsz : nt ≤ a.tmps.size) {Q : Exit → Act → World → Prop} :
    ∃ k, l[k]? = some i ∧ wpOp P ops Q i (After cops S (atD l D) k w c H a) a w := by
  have hil : i < ops.size := (Array.getElem?_eq_some_iff.1 ho).1
  obtain ⟨k, hk⟩ := List.mem_iff_getElem?.1 (hL.all i hil)
  refine ⟨k, hk, ?_⟩
  obtain ⟨o', x, e1, hx, hdst, hg, hop⟩ := hL.get k i hk
  rw [ho] at e1
  cases e1
  have hkl : k < cops.length := (List.getElem?_eq_some_iff.1 hx).1
  have hnk : ¬ atD l D k := fun ⟨i', h1, h2⟩ => by
    rw [hk] at h1
    cases h1
    exact hni h2
  have ahead : ∀ {j y}, cops[j]? = some y → j < k → ¬ atD l D j → unordOk y x = true := fun hj hjk hn => hL.ahead hD ho hready hk hx hj hjk hn
  have behind : ∀ {j y}, cops[j]? = some y → k < j → atD l D j → unordOk x y = true ∧ chkOk cops k j x y = true := fun hj hkj hd => hL.behind hD hni hk hx hj hkj hd
  have hlook : ∀ t, t ∈ looksC x → R w c (Fm.look (S k).env t) (a.eval (.tmp t)) := fun t ht => h.look hS (Nat.le_of_lt hkl) fun j y hj hd => by
    constructor
    · intro hDj
      rcases Nat.lt_trichotomy j k with h1 | h1 | h1
      · exact h1
      · exact absurd (h1 ▸ hDj) hnk
      · exact absurd ht ((unord_spec (behind hj h1 hDj).1).2.2.2.2 t hd)
    · intro hjk
      exact Classical.byContradiction fun hn => ((unord_spec (ahead hj hjk hn)).2.2.2.1 t hd).1 ht
  have hnew : ∀ j o' d, atD l D j → cops[j]? = some o' → x.dst = some d → o'.dst = some d → j < k := fun j y d hDj hj hxd hyd => by
    rcases Nat.lt_trichotomy j k with h1 | h1 | h1
    · exact h1
    · exact absurd (h1 ▸ hDj) hnk
    · exact absurd hyd ((unord_spec (behind hj h1 hDj).1).2.2.2.1 d hxd).2
  have hex : ∀ t, ∃ v, R w c v (a.eval (.tmp t)) ∧ (t ∈ looksC x → v = Fm.look (S k).env t) := fun t => by
    rcases Classical.em (t ∈ looksC x) with ht | ht
    · exact ⟨_, hlook t ht, fun _ => rfl⟩
    · rcases h.env t with ⟨j, y, _, _, _, _, h5⟩ | ⟨_, h2⟩
      · exact ⟨_, h5, fun h => absurd h ht⟩
      · exact ⟨_, h2, fun h => absurd h ht⟩
  obtain ⟨env', henv⟩ := Classical.axiomOfChoice hex
  have hE : EnvR w c env' a := fun t => (henv t).1
  have hρ : ∀ y ∈ opnds x.op, opd (Fm.look (S k).env) y = opd env' y := fun y hy => by
    cases y with
    | t t => exact ((henv t).2 (mem_looksC hy)).symm
    | c v => rfl
  have hds : ∀ d, x.dst = some d → d < a.tmps.size := fun d hd => Nat.lt_of_lt_of_le (hL.dst k x d hx hd) hsz
  have done : ∀ {v : V} {w' : World} {c' : Cx} {H' : HeapF} {q' : Nat}, Mid cops S (fun j => atD l D j ∨ j = k) a w' c' H' q' → True := fun _ => trivial
  have wrote : ∀ {j y}, cops[j]? = some y → cls y.op = .m → cls x.op = .m → atD l D j → j < k := fun hj hc hcx hDj => by
    rename_i j y
    rcases Nat.lt_trichotomy j k with h1 | h1 | h1
    · exact h1
    · exact absurd (h1 ▸ hDj) hnk
    · exact absurd ⟨hcx, hc⟩ (unord_spec (behind hj h1 hDj).1).1
  have hqk : cls x.op = .m ∨ cls x.op = .a → q ≤ k := fun hc => by
    rcases Nat.lt_or_ge k q with hlt | hge
    · exact absurd (h.done k x hlt hx hc) hnk
    · exact hge
  have hDm : cls x.op = .m → ∀ j o, j < k → cops[j]? = some o → (cls o.op = .m ∨ cls o.op = .a) → atD l D j := fun hc j y hjk hj hcy =>
    Classical.byContradiction fun hn => by
      have := unord_spec (ahead hj hjk hn)
      rcases hcy with hcy | hcy
      · exact this.1 ⟨hcy, hc⟩
      · exact this.2.1 ⟨hcy, hc⟩
  have hdp : ∀ v : Value, a.put o.dst v = a.put x.dst v := fun v => by rw [hdst]
  rcases step_cases (hS k x hx) with ⟨r, s1, s2, s3, s4⟩ | ⟨s3, g, g1, g2⟩
  · have hw : Region.wanted o (yielded ops a.tmps) = true := by
      unfold Region.wanted
      cases hgo : o.guard with
      | none => rfl
      | some jw =>
        obtain ⟨j, want⟩ := jw
        unfold guardOf at hg
        rw [hgo] at hg
        obtain ⟨d, hd, hxg⟩ := Option.map_eq_some_iff.1 hg
        have hl := s4 _ hxg.symm
        have hR := hlook d (mem_looksG hxg.symm)
        simp only at hl
        rw [hl] at hR
        have hv := hR.bool_inv
        simp only [yielded, hd, Option.bind_some]
        simp only [Act.eval] at hv
        by_cases hds : d < a.tmps.size
        · rw [Array.getElem?_eq_getElem hds]
          simp only [Array.getD, hds, dif_pos] at hv
          simp only [Array.getInternal_eq_getElem] at hv
          rw [hv]
          simp
        · simp only [Array.getD, hds, dif_neg, not_false_iff] at hv
          cases hv
    unfold wpOp
    rw [ho]
    simp only [hw, if_true]
    left
    have hc : cOp P o.op = some x.op := by
      cases hc : cOp P o.op with
      | none =>
        rw [hc] at hop
        rw [hop] at s1
        cases s1
      | some c => rw [hc] at hop; rw [hop]; rfl
    have s1' := s1
    rw [exec_congr hρ] at s1'
    have hd2 : ∀ d, x.dst = some d → Fm.look (S (k + 1)).env d = r.1 := fun d hd => by
      rw [s3]
      simp only [look_set, if_pos hd]
    cases hcl : cls x.op with
    | p =>
      obtain ⟨v, hv, rfl⟩ := exec_p hcl s1'
      obtain ⟨u, hu, hRu⟩ := pure_sound (a := a) hc rfl hE hv
      unfold Oper.wp
      rw [hu, Oper.upon_value, hdp]
      refine ⟨c, H, q, h.quiet hx (by rw [hcl]; exact fun e => by cases e) ?_ hnew fun d hd => ⟨hds d hd, by rw [hd2 d hd]; exact hRu⟩, Step.refl h.heaps, act_size .., act_defers ..⟩
      rintro th ⟨o1, _, ho1, hc1, _⟩
      rw [hx] at ho1
      cases ho1
      rw [hcl] at hc1
      cases hc1
    | r =>
      obtain ⟨hv, hr2⟩ := exec_read hcl s1'
      have hv' : readOp H (opd env') x.op = some r.1 := by
        refine readOp_same (fun y hy => ?_) hv
        have hyo := looked_opnds hy
        cases y with
        | t t =>
          refine h.sees hS h0 hx hcl hnk (fun j y hj hcy hn => ?_) (fun j y hkj hj hDj => (behind hj hkj hDj).2) (hE t) (.inr ⟨t, hy, (henv t).2 (mem_looksC hyo)⟩)
          rcases Nat.lt_or_ge j k with hlt | hge
          · exact absurd ⟨hcy, hcl⟩ (unord_spec (ahead hj hlt hn)).2.2.1
          · exact hge
        | c v =>
          intro id hid
          exfalso
          change refOf v = some id at hid
          rw [looked_const hc hy] at hid
          cases hid
      obtain ⟨u, hu, hRu⟩ := r_sound (a := a) h.heaps hc rfl hE hcl hv'
      unfold Oper.wp
      rw [hu, Oper.upon_value, hdp]
      refine ⟨c, H, q, h.quiet hx (by rw [hcl]; exact fun e => by cases e) ?_ hnew fun d hd => ⟨hds d hd, by rw [hd2 d hd]; exact hRu⟩, Step.refl h.heaps, act_size .., act_defers ..⟩
      rintro th ⟨o1, _, ho1, hc1, _⟩
      rw [hx] at ho1
      cases ho1
      rw [hcl] at hc1
      cases hc1
    | a =>
      obtain ⟨p, hp, rfl⟩ := exec_a hcl s1
      obtain ⟨p', hp', hrr⟩ := exec_a hcl s1'
      have hM : MakesAt cops S k p.2 := ⟨x, p, hx, hcl, hp, rfl, by rw [s3], by rw [s3], s4⟩
      have hqk' := hqk (.inr hcl)
      have hA : ¬ c.A (S k).nx := fun hA => by
        rcases (h.num _).1 hA with h1 | ⟨j, th, h1, h2, h3, h4⟩
        · have := seq_nx hS h0 (i := q) k hqk' (by omega)
          omega
        · have hjk : j ≠ k := fun e => hnk (e ▸ h2)
          rcases Nat.lt_or_gt_of_ne hjk with hlt | hgt
          · have := makes_ne hS h0 h3 hM hlt; omega
          · have := makes_ne hS h0 hM h3 hgt; omega
      have hpe : p'.1 (S k).nx = p.1 (S k).nx ∧ p'.2 = p.2 := by
        simp only [Prod.mk.injEq] at hrr
        refine ⟨hrr.1.symm, ?_⟩
        have h1 := congrArg (fun t : Heap => t.get (S k).nx) hrr.2.1
        simp only [Tr.get_put_same, Option.some.injEq] at h1
        exact h1.symm
      obtain ⟨u, w', l', hu, hst, hRu⟩ := new_sound (a := a) h.heaps hA hc rfl hE hp'
      rw [hpe.1] at hRu
      rw [hpe.2] at hst
      unfold Oper.wp
      rw [hu, Oper.upon_value, hdp]
      exact ⟨_, _, q, h.make hS h0 hx hM hnk hst hA hnew fun d hd => ⟨hds d hd, by rw [hd2 d hd]; exact hRu⟩, hst, act_size .., act_defers ..⟩
    | m =>
      have hqk' := hqk (.inl hcl)
      obtain ⟨hag, hAll⟩ := h.at hS h0 (Nat.le_of_lt hkl) hqk' (hDm hcl)
      have hnx' : (S (k + 1)).nx = r.2.2.1 := by rw [s3]
      refine m_sound hT h.heaps hag hc rfl hE hcl s1' (fun j h1 h2 hA => ?_) fun u w' c' H' hdid hRu => ?_
      · rcases (h.num _).1 hA with g1 | ⟨j', th, g1, g2, g3, g4⟩
        · have := seq_nx hS h0 (i := q) k hqk' (by omega)
          omega
        · rcases Nat.lt_trichotomy j' k with hlt | heq | hgt
          · have hn := seq_nx hS h0 (i := j' + 1) k (by omega) (by omega)
            obtain ⟨_, _, _, _, _, _, _, e2, _⟩ := g3
            omega
          · exact hnk (heq ▸ g2)
          · have hj'l : j' < cops.length := by
              obtain ⟨o1, _, ho1, _⟩ := g3
              exact (List.getElem?_eq_some_iff.1 ho1).1
            have hn := seq_nx hS h0 (i := k + 1) j' (by omega) (by omega)
            omega
      · rw [hdp]
        rw [show r.2.2.1 = (S (k + 1)).nx from hnx'.symm, show r.2.1 = (S (k + 1)).L by rw [s3]] at hdid
        exact ⟨c', H', k + 1, h.write hS h0 hx hcl hnk hqk' (hDm hcl) (fun j y hDj hj hcy => wrote hj hcy hcl hDj) hdid hnew fun d hd => ⟨hds d hd, by rw [hd2 d hd]; exact hRu⟩, hdid.step, act_size .., act_defers ..⟩
  · have hw : Region.wanted o (yielded ops a.tmps) = false := by
      unfold guardOf at hg
      cases hgo : o.guard with
      | none =>
        rw [hgo] at hg
        simp only [Option.some.injEq] at hg
        rw [← hg] at g1
        cases g1
      | some jw =>
        obtain ⟨j, want⟩ := jw
        rw [hgo] at hg
        obtain ⟨d, hd, hxg⟩ := Option.map_eq_some_iff.1 hg
        rw [g1] at hxg
        cases hxg
        have hR := hlook d (mem_looksG g1)
        simp only at g2
        unfold Region.wanted
        simp only [hgo, yielded, hd, Option.bind_some]
        have hv : a.tmps[d]? ≠ some (.bool want) := by
          intro hv
          have he : a.eval (.tmp d) = .bool want := by simp [Act.eval, Array.getD_eq_getD_getElem?, hv]
          rw [he] at hR
          rcases g2 with ⟨b, hb, hne⟩ | hb
          · rw [hb] at hR
            have := hR.bool_inv
            simp only [Value.bool.injEq] at this
            exact hne this.symm
          · rw [hb] at hR
            cases hR
        cases ht : a.tmps[d]? with
        | none => rfl
        | some v =>
          cases v <;> first
            | rfl
            | (rename_i b
               rw [ht] at hv
               simp only [ne_eq, Option.some.injEq, Value.bool.injEq] at hv
               simpa using hv)
    unfold wpOp
    rw [ho]
    simp only [hw, Bool.false_eq_true, if_false]
    rw [hdp]
    have hd2 : ∀ d, x.dst = some d → Fm.look (S (k + 1)).env d = .undef := fun d hd => by
      rw [s3]
      simp only [look_set, if_pos hd]
    have hRu : ∀ {w' c'}, R w' c' .undef undef := fun {w' c'} => R.undef
    have hng : ∀ th, ¬ MakesAt cops S k th := by
      rintro th ⟨o1, _, ho1, _, _, _, _, _, hgd⟩
      rw [hx] at ho1
      cases ho1
      have := hgd g g1
      rcases g2 with ⟨b, hb, hne⟩ | hb
      · rw [hb] at this
        cases this
        exact hne rfl
      · rw [hb] at this
        cases this
    by_cases hcl : cls x.op = .m
    · have hqk' := hqk (.inl hcl)
      obtain ⟨hag, hAll⟩ := h.at hS h0 (Nat.le_of_lt hkl) hqk' (hDm hcl)
      have hdid : Did w c H (S k).nx (S k).L w c H (S (k + 1)).nx (S (k + 1)).L [] := by
        rw [s3]
        exact Did.same h.heaps hag
      exact ⟨c, H, k + 1, h.write hS h0 hx hcl hnk hqk' (hDm hcl) (fun j y hDj hj hcy => wrote hj hcy hcl hDj) hdid hnew fun d hd => ⟨hds d hd, by rw [hd2 d hd]; exact hRu⟩, Step.refl h.heaps, act_size .., act_defers ..⟩
    · exact ⟨c, H, q, h.quiet hx hcl hng hnew fun d hd => ⟨hds d hd, by rw [hd2 d hd]; exact hRu⟩, Step.refl h.heaps, act_size .., act_defers ..⟩
end
end Go.Fm
end

section
/- FM: a region comes to what FM says. -/
set_option autoImplicit false
namespace Go.Fm

section
variable {P : Program} {T : FuncId → Option Def} {call : Caller} {nt : Nat} {ops : Array Oper} {l : List Nat} {cops : List COper} {S : Nat → St}

theorem ready_spec {listed : Array Bool} {i : Nat} : i ∈ Region.ready .any ops listed ↔ i < ops.size ∧ listed.getD i true = false ∧ ∃ o, ops[i]? = some o ∧ ∀ e ∈ o.after, Region.binds .any e = true → listed.getD e.on false = true := by
  unfold Region.ready
  rw [List.mem_filter, List.mem_range, Bool.and_eq_true, Bool.not_eq_true']
  constructor
  · rintro ⟨h1, h2, h3⟩
    cases ho : ops[i]? with
    | none => rw [ho] at h3; cases h3
    | some o =>
      rw [ho] at h3
      simp only [Option.map_some, Option.getD_some, Array.all_eq_true'] at h3
      refine ⟨h1, h2, o, rfl, fun e he hb => ?_⟩
      have := h3 e he
      simpa [hb] using this
  · rintro ⟨h1, h2, o, ho, h3⟩
    refine ⟨h1, h2, ?_⟩
    rw [ho]
    simp only [Option.map_some, Option.getD_some, Array.all_eq_true']
    intro e he
    cases hb : Region.binds .any e with
    | false => rfl
    | true => rw [h3 e he hb]; rfl

theorem getD_false {listed : Array Bool} {i : Nat} : listed.getD i false = true ↔ listed[i]? = some true := by
  rw [Array.getD_eq_getD_getElem?]
  cases listed[i]? with
  | none => simp
  | some b => simp
theorem getD_true {listed : Array Bool} {i : Nat} (h : i < listed.size) : listed.getD i true = false ↔ ¬ listed[i]? = some true := by
  rw [Array.getD_eq_getD_getElem?, Array.getElem?_eq_getElem h]
  simp

/-- Something is ready as long as something is left. -/
theorem ready_some (hb : back ops = true) {listed : Array Bool} (hs : listed.size = ops.size) (hr : Region.ready .any ops listed = []) : ∀ i, i < ops.size → listed[i]? = some true := by
  intro i
  induction i using Nat.strongRecOn with
  | _ i ih =>
    intro hi
    refine Classical.byContradiction fun hn => ?_
    have : i ∈ Region.ready .any ops listed := by
      refine ready_spec.2 ⟨hi, (getD_true (by omega)).2 hn, ops[i], by simp [hi], fun e he hbi => ?_⟩
      have hlt : e.on < i := by
        unfold back at hb
        have := List.all_eq_true.1 hb (ops[i], i) (by rw [List.mem_zipIdx_iff_getElem?]; simp [hi])
        simp only [Array.all_eq_true'] at this
        have := this e he
        simpa [hbi] using this
      exact getD_false.2 (ih e.on hlt (by omega))
    rw [hr] at this
    cases this

theorem all_of_count {listed : Array Bool} (h : listed.toList.count false = 0) : ∀ i, i < listed.size → listed[i]? = some true := by
  intro i hi
  rw [List.count_eq_zero] at h
  cases hx : listed[i] with
  | true => rw [Array.getElem?_eq_getElem hi, hx]
  | false => exact absurd (by rw [← hx]; simp) h

structure Final (S : Nat → St) (n : Nat) (w0 : World) (c0 : Cx) (H0 : HeapF) (nt : Nat) (df : List Deferred) (a : Act) (w : World) (c : Cx) (H : HeapF) : Prop where
  env : EnvR w c (look (S n).env) a
  agree : Agree (S n).nx (S n).L H
  A : ∀ id, c.A id ↔ id < (S n).nx
  step : Step w0 c0 H0 w c H
  size : nt ≤ a.tmps.size
  defers : a.defers = df

theorem Mid.final {w0 : World} {c0 : Cx} {H0 : HeapF} {df : List Deferred} (hS : Seq T call cops S) (h0 : Top (S 0).L (S 0).nx) {D : Nat → Prop} (hD : ∀ j, j < cops.length → D j) {a : Act} {w : World} {c : Cx} {H : HeapF} {q : Nat}
    (h : Mid cops S D a w c H q) (hst : Step w0 c0 H0 w c H) (hsz : nt ≤ a.tmps.size) (hdf : a.defers = df) : Final S cops.length w0 c0 H0 nt df a w c H := by
  obtain ⟨h1, h2⟩ := h.at hS h0 (Nat.le_refl _) h.qle fun j o hj _ _ => hD j hj
  refine ⟨fun t => ?_, h1, fun id => ⟨fun hA => ?_, h2 id⟩, hst, hsz, hdf⟩
  · exact h.look hS (Nat.le_refl _) fun j o hj _ => ⟨fun _ => (List.getElem?_eq_some_iff.1 hj).1, hD j⟩
  · rcases (h.num id).1 hA with g | ⟨k, th, g1, g2, g3, rfl⟩
    · have := seq_nx hS h0 (i := q) cops.length h.qle (Nat.le_refl _)
      omega
    · obtain ⟨o, _, ho, _, _, _, _, e2, _⟩ := g3
      have hk := (List.getElem?_eq_some_iff.1 ho).1
      have := seq_nx hS h0 (i := k + 1) cops.length hk (Nat.le_refl _)
      omega

theorem any_of (hT : ∀ f d, T f = some d → Answers P f (call f)) (hL : Laid P nt ops l cops) (hS : Seq T call cops S) (h0 : Top (S 0).L (S 0).nx) {w0 : World} {c0 : Cx} {H0 : HeapF} {df : List Deferred} {Q : Exit → Act → World → Prop}
    (hQ : ∀ a w c H, Final S cops.length w0 c0 H0 nt df a w c H → Q .normal a w) : ∀ (fuel : Nat) (listed : Array Bool) (a : Act) (w : World) (c : Cx) (H : HeapF) (q : Nat), listed.size = ops.size → listed.toList.count false = fuel →
    ClosedD ops (fun i => listed[i]? = some true) → Mid cops S (atD l fun i => listed[i]? = some true) a w c H q → Step w0 c0 H0 w c H → nt ≤ a.tmps.size → a.defers = df → wpAny P .any ops Q fuel listed a w := by
  intro fuel
  have full : ∀ (listed : Array Bool), listed.size = ops.size → (∀ i, i < listed.size → listed[i]? = some true) → ∀ j, j < cops.length → atD l (fun i => listed[i]? = some true) j := fun listed hs hall j hj => by
    obtain ⟨i, hi⟩ := hL.at (by rw [← hL.clen]; exact hj)
    refine ⟨i, hi, ?_⟩
    cases hx : listed[i]? with
    | some b =>
      exact hall i (Array.getElem?_eq_some_iff.1 hx).1
    | none =>
      obtain ⟨o, _, ho, _⟩ := hL.get j i hi
      have := (Array.getElem?_eq_some_iff.1 ho).1
      rw [hall i (by omega)] at hx
      cases hx
  induction fuel with
  | zero =>
    intro listed a w c H q hs hc hD h hst hsz hdf
    have hall := all_of_count hc
    refine ⟨?_, hQ a w c H (h.final hS h0 (full listed hs hall) hst hsz hdf)⟩
    rw [List.eq_nil_iff_forall_not_mem]
    intro i hi
    obtain ⟨h1, h2, _⟩ := ready_spec.1 hi
    exact (getD_true (by omega)).1 h2 (hall i (by omega))
  | succ fuel ih =>
    intro listed a w c H q hs hc hD h hst hsz hdf
    refine ⟨fun hr => ?_, fun i hi => ?_⟩
    · have hall : ∀ i, i < listed.size → listed[i]? = some true := fun i hi => ready_some hL.back hs hr i (by omega)
      exact hQ a w c H (h.final hS h0 (full listed hs hall) hst hsz hdf)
    · obtain ⟨h1, h2, o, ho, h3⟩ := ready_spec.1 hi
      have hni := (getD_true (by omega : i < listed.size)).1 h2
      obtain ⟨k, hk, hw⟩ := step_at (Q := Q) hT hL hS h0 hD ho (fun e he hb => getD_false.1 (h3 e he hb)) hni h hsz
      refine wpOp_mono (fun a' w' hA => ?_) hw
      obtain ⟨c', H', q', g1, g2, g3, g4⟩ := hA
      have hset : ∀ j, (listed.setIfInBounds i true)[j]? = some true ↔ listed[j]? = some true ∨ j = i := fun j => by
        rw [Array.getElem?_setIfInBounds]
        by_cases hij : i = j
        · subst hij
          rw [if_pos rfl, if_pos (by omega)]
          simp
        · rw [if_neg hij]
          constructor
          · exact .inl
          · rintro (h | rfl)
            · exact h
            · exact absurd rfl hij
      refine ih _ a' w' c' H' q' (by simpa using hs) ?_ (fun j oj hoj hj e he hb => ?_) ?_ (hst.trans g2) (by omega) (g4.trans hdf)
      · have hf : listed.toList[i]? = some false := by
          rw [Array.getElem?_toList, Array.getElem?_eq_getElem (by omega : i < listed.size)]
          cases hx : listed[i]'(by omega) with
          | false => rfl
          | true => exact absurd (by rw [Array.getElem?_eq_getElem (by omega : i < listed.size), hx]) hni
        rw [Array.toList_setIfInBounds, List.count_set (by simpa using (by omega : i < listed.size))]
        have hge := List.getElem?_eq_some_iff.1 hf
        obtain ⟨hlt, hval⟩ := hge
        rw [hval]
        simp [hc]
      · rcases (hset j).1 hj with hj | rfl
        · exact (hset _).2 (.inl (hD j oj hoj hj e he hb))
        · rw [ho] at hoj
          cases hoj
          exact (hset _).2 (.inl (getD_false.1 (h3 e he hb)))
      · have : (atD l fun i_1 => (listed.setIfInBounds i true)[i_1]? = some true) = fun j => atD l (fun i => listed[i]? = some true) j ∨ j = k := by
          funext j
          apply propext
          unfold atD
          constructor
          · rintro ⟨i', e1, e2⟩
            rcases (hset i').1 e2 with e2 | rfl
            · exact .inl ⟨i', e1, e2⟩
            · exact .inr (hL.inj e1 hk)
          · rintro (⟨i', e1, e2⟩ | rfl)
            · exact ⟨i', e1, (hset i').2 (.inl e2)⟩
            · exact ⟨i, hk, (hset i).2 (.inr rfl)⟩
        rw [this]
        exact g1

/-- What holds between operations. -/
structure Inv (w0 : World) (c0 : Cx) (H0 : HeapF) (nt : Nat) (s : St) (a : Act) (w : World) (c : Cx) (H : HeapF) : Prop where
  step : Step w0 c0 H0 w c H
  agree : Agree s.nx s.L H
  A : ∀ id, c.A id ↔ id < s.nx
  env : EnvR w c (look s.env) a
  size : nt ≤ a.tmps.size
  defers : a.defers = []

theorem Heaps.drawnAt {w : World} {c : Cx} {H : HeapF} (h : Heaps w c H) (d : Nat) : Step w c H { w with drawn := d } c H := by
  have hk : Keep c w { w with drawn := d } := fun _ _ => rfl
  refine ⟨⟨fun id th hi => ?_, h.num, h.free, h.rest, h.apart, h.old⟩, Ext.refl c, Nat.le_refl _, fun _ _ _ => rfl, fun _ h => .inl h, fun _ h => .inl h, fun _ h => h, rfl, rfl, rfl⟩
  obtain ⟨l, h1, h2⟩ := h.at_ id th hi
  exact ⟨l, h1, h2.ext (Ext.refl c) hk fun _ => rfl⟩

theorem mid_start {w : World} {c : Cx} {H : HeapF} {a : Act} (hh : Heaps w c H) (ha : Agree (S 0).nx (S 0).L H) (hA : ∀ id, c.A id ↔ id < (S 0).nx) (hE : EnvR w c (look (S 0).env) a) {D : Nat → Prop} (hD : ∀ k, ¬ D k) : Mid cops S D a w c H 0 := by
  refine ⟨Nat.zero_le _, fun k o h => absurd h (hD k), fun k o h => by omega, hh, ha.low, fun k th _ h => absurd h (hD k), fun id => ?_, fun t => .inr ⟨fun k o h => absurd h (hD k), hE t⟩⟩
  rw [hA]
  exact ⟨.inl, fun h => h.elim (fun h => h) fun ⟨k, _, _, h, _⟩ => absurd h (hD k)⟩

theorem count_replicate (n : Nat) : (Array.replicate n false).toList.count false = n := by simp

/-- The order of the text is one of the orders. -/
theorem text_of_any (hb : back ops = true) {Q : Exit → Act → World → Prop} : ∀ (n k : Nat) (listed : Array Bool) (a : Act) (w : World), k + n = ops.size → listed.size = ops.size → (∀ j, j < ops.size → (listed[j]? = some true ↔ j < k)) → wpAny P .any ops Q n listed a w → wpOps P ops Q (List.range' k n) a w := by
  intro n
  induction n with
  | zero =>
    intro k listed a w _ _ _ h
    simpa [wpOps] using h.2
  | succ n ih =>
    intro k listed a w hkn hs hk h
    rw [List.range'_succ, wpOps_cons]
    have hkl : k < ops.size := by omega
    refine wpOp_mono (fun a' w' h' => ih (k + 1) _ a' w' (by omega) (by simpa using hs) (fun j hj => ?_) h') (h.2 k (ready_spec.2 ⟨hkl, (getD_true (by omega)).2 fun e => ?_, ops[k], by simp [hkl], fun e he hbi => ?_⟩))
    · rw [Array.getElem?_setIfInBounds]
      by_cases hjk : k = j
      · subst hjk
        rw [if_pos rfl, if_pos (by omega)]
        simp
      · rw [if_neg hjk, hk j hj]
        omega
    · have := (hk k hkl).1 e
      omega
    · have hlt : e.on < k := by
        unfold back at hb
        have := List.all_eq_true.1 hb (ops[k], k) (by rw [List.mem_zipIdx_iff_getElem?]; simp [hkl])
        simp only [Array.all_eq_true'] at this
        have := this e he
        simpa [hbi] using this
      exact getD_false.2 ((hk _ (by omega)).2 hlt)

theorem region_sound (hm : P.follows .mixedOrders = true) (hT : ∀ f d, T f = some d → Answers P f (call f)) (hc : cReg P nt ops = some cops) {s s' : St} (hs : stepOps T call cops s = some s') {w0 w : World} {c0 c : Cx} {H0 H : HeapF} {a : Act}
    (h : Inv w0 c0 H0 nt s a w c H) (id : Nat) (dr : Bool) : (Code.region id ops dr).wp P (fun e a' w' => e = .normal ∧ s'.bx = s.bx ∧ ∃ c' H', Inv w0 c0 H0 nt s' a' w' c' H') a w := by
  obtain ⟨l, hL⟩ := cReg_laid hc
  obtain ⟨S, e0, e1, hS⟩ := seq_of hs
  subst e0
  have h0 : Top (S 0).L (S 0).nx := h.agree.top
  have key : ∀ d, wpAny P .any ops (fun e a' w' => e = .normal ∧ s'.bx = (S 0).bx ∧ ∃ c' H', Inv w0 c0 H0 nt s' a' w' c' H') ops.size (Array.replicate ops.size false) a { w with drawn := d } := fun d => by
    have hst := h.step.heaps.drawnAt d
    have hn : ∀ i, ¬ (Array.replicate ops.size false)[i]? = some true := fun i hi => by
      rw [Array.getElem?_replicate] at hi
      split at hi <;> cases hi
    refine any_of (w0 := w0) (c0 := c0) (H0 := H0) (df := []) hT hL hS h0 (fun a' w' c' H' hf => ?_) ops.size _ a { w with drawn := d } c H 0 (by simp) (count_replicate _) (fun i o _ hi => absurd hi (hn i)) ?_ (h.step.trans hst) h.size h.defers
    · rw [← e1]
      exact ⟨rfl, seq_bx hS _ (Nat.le_refl _), c', H', hf.step, hf.agree, hf.A, hf.env, hf.size, hf.defers⟩
    · exact mid_start hst.heaps h.agree h.A (fun t => (h.env t).ext (Ext.refl c) fun _ _ => rfl) fun k hk => by
        obtain ⟨i, _, hi⟩ := hk
        exact hn i hi
  cases dr with
  | true => exact wp_region_any hm (key _)
  | false =>
    have := text_of_any hL.back ops.size 0 _ a w (by omega) (by simp) (fun j hj => by simp [hj]) (key w.drawn)
    exact wp_region (by rw [List.range_eq_range']; exact this)
end
end Go.Fm
end

section
/- FM: what FM answers, the program answers. -/
set_option autoImplicit false
namespace Go.Fm

/-- A table of functions that fits a program. -/
structure Valid (P : Program) (T : FuncId → Option Def) : Prop where
  mixed : P.follows .mixedOrders = true
  fn : ∀ f d, T f = some d → ∃ fn, P.funcs[f]? = some fn ∧ (fn.name == "runtime.NumGoroutine") = false ∧ fn.body.isNone = false
  code : ∀ f fi, T f = some (.code fi) → ∀ fn, P.funcs[f]? = some fn → cFn P fn = some (fi.nt, fi.code, fi.res)
  prim : ∀ f p, T f = some (.prim p) → Meets P f p.f

inductive Todo (P : Program) (nt : Nat) : List Item → List It → Prop
  | nil : Todo P nt [] []
  | code {c : Code} {c' : CCode} {k : List Item} {k' : List It} (h : cCode P nt c = some c') (hk : Todo P nt k k') : Todo P nt (.code c :: k) (.code c' :: k')
  | inB (id : Nat) {k : List Item} {k' : List It} (hk : Todo P nt k k') : Todo P nt (.inBlock id :: k) (.inB id :: k')
  | inL {c : Code} {c' : CCode} {k : List Item} {k' : List It} (h : cCode P nt c = some c') (hk : Todo P nt k k') : Todo P nt (.inLoop c :: k) (.inL c' :: k')
  | inS {c : Code} {c' : CCode} {k : List Item} {k' : List It} (h : cCode P nt c = some c') (hk : Todo P nt k k') : Todo P nt (.inScope c :: k) (.inS c' :: k')

section
variable {P : Program} {nt : Nat}

theorem Todo.exit {id : Nat} {k : List Item} {k' r' : List It} (h : Todo P nt k k') (he : exitTo id k' = some r') : ∃ r, Go.exitTo id k = some r ∧ Todo P nt r r' := by
  induction h with
  | nil => cases he
  | code h hk ih => exact ih he
  | inL h hk ih => exact ih he
  | inS h hk ih => exact ih he
  | inB id' hk ih =>
    simp only [exitTo] at he
    simp only [Go.exitTo]
    split at he
    · rename_i hid
      cases he
      rw [if_pos hid]
      exact ⟨_, rfl, hk⟩
    · rename_i hid
      rw [if_neg hid]
      exact ih he

theorem findLabel_sound (l : Nat) : ∀ {c : Code} {c' : CCode}, cCode P nt c = some c' → (findLabel c' l = none ∧ Go.findLabel c l = none) ∨ ∃ r r', findLabel c' l = some r' ∧ Go.findLabel c l = some r ∧ cCode P nt r = some r' := by
  intro c
  induction c with
  | seq a b iha ihb =>
    intro c' h
    simp only [cCode, Option.bind_eq_some_iff, Option.map_eq_some_iff] at h
    obtain ⟨a', ha, b', hb, rfl⟩ := h
    simp only [findLabel, Go.findLabel]
    rcases iha ha with ⟨h1, h2⟩ | ⟨r, r', h1, h2, h3⟩
    · rw [h1, h2]
      exact ihb hb
    · rw [h1, h2]
      exact .inr ⟨_, _, rfl, rfl, by simp [cCode, h3, hb]⟩
  | label l' =>
    intro c' h
    cases h
    simp only [findLabel, Go.findLabel]
    by_cases hl : (l' == l) = true
    · rw [if_pos hl, if_pos hl]
      exact .inr ⟨_, _, rfl, rfl, rfl⟩
    · rw [if_neg hl, if_neg hl]
      exact .inl ⟨rfl, rfl⟩
  | region id ops d =>
    intro c' h
    obtain ⟨r, hr, rfl⟩ := Option.map_eq_some_iff.1 h
    exact .inl ⟨rfl, rfl⟩
  | cond x a b =>
    intro c' h
    simp only [cCode, Option.bind_eq_some_iff, Option.map_eq_some_iff] at h
    obtain ⟨a', ha, b', hb, d, hd, rfl⟩ := h
    exact .inl ⟨rfl, rfl⟩
  | block id c ih => intro c' h; obtain ⟨r, hr, rfl⟩ := Option.map_eq_some_iff.1 h; exact .inl ⟨rfl, rfl⟩
  | loop c ih => intro c' h; obtain ⟨r, hr, rfl⟩ := Option.map_eq_some_iff.1 h; exact .inl ⟨rfl, rfl⟩
  | scope c ih => intro c' h; obtain ⟨r, hr, rfl⟩ := Option.map_eq_some_iff.1 h; exact .inl ⟨rfl, rfl⟩
  | _ => intro c' h; cases h; exact .inl ⟨rfl, rfl⟩

theorem Todo.goto {l : Nat} {k : List Item} {k' r' : List It} (h : Todo P nt k k') (he : gotoIn l k' = some r') : ∃ r, Go.gotoIn l k = some r ∧ Todo P nt r r' := by
  induction h with
  | nil => cases he
  | code h hk ih => exact ih he
  | inL h hk ih => exact ih he
  | inB id' hk ih => exact ih he
  | inS h hk ih =>
    simp only [gotoIn] at he
    simp only [Go.gotoIn]
    rcases findLabel_sound l h with ⟨h1, h2⟩ | ⟨r, r', h1, h2, h3⟩
    · rw [h1] at he
      rw [h2]
      exact ih he
    · rw [h1] at he
      rw [h2]
      cases he
      exact ⟨_, rfl, .code h3 (.inS h hk)⟩

theorem step_scope {b : Frame} {a : Act} {k : List Item} {cs : List Frame} {w : World} {c : Code} :
    Go.step P (lone (b.at a (.code (.scope c) :: k)) cs w) = .next (lone (b.at a (.code c :: .inScope c :: k)) cs w) :=
  step_lone_go (by simp [stepG, stepG.exec, Frame.at])
theorem step_inScope {b : Frame} {a : Act} {k : List Item} {cs : List Frame} {w : World} {c : Code} :
    Go.step P (lone (b.at a (.inScope c :: k)) cs w) = .next (lone (b.at a k) cs w) :=
  step_lone_go (by simp [stepG, stepG.exec, Frame.at])

/-- What a run ends with. -/
def Ends (P : Program) (f : FuncId) (w0 : World) (c0 : Cx) (args : List V) (r : Res) (m : List Frame → Machine) : Prop :=
  ∀ cs, ∃ u w' fr, Back w0 c0 args r w' u ∧ Steps P (m cs) (lone fr cs w') ∧ fr.fn = f ∧ fr.leaving P w' (.returned u)

theorem Ends.step {f : FuncId} {w0 : World} {c0 : Cx} {args : List V} {r : Res} {m m' : List Frame → Machine} (h : ∀ cs, Steps P (m cs) (m' cs)) (h' : Ends P f w0 c0 args r m') : Ends P f w0 c0 args r m := fun cs => by
  obtain ⟨u, w', fr, h1, h2, h3⟩ := h' cs
  exact ⟨u, w', fr, h1, (h cs).trans h2, h3⟩

variable {T : FuncId → Option Def}

/-- Runs of a length come to what FM says. -/
def RunOk (P : Program) (T : FuncId → Option Def) (n : Nat) : Prop :=
  ∀ (f : FuncId) (fi : FI) (fn : Func), P.funcs[f]? = some fn → T f = some (.code fi) → ∀ (todo' : List It) (s : St) (r : Res), runN T n fi todo' s = some r →
    ∀ (b : Frame) (a : Act) (todo : List Item) (w0 w : World) (c0 c : Cx) (H : HeapF) (args : List V) (us : List Value), b.fn = f → b.kind = .normal → Todo P fi.nt todo todo' → In w0 c0 args us → Inv w0 c0 (inH args) fi.nt s a w c H → s.bx = (enterA args 0).2.2 →
      Ends P f w0 c0 args r fun cs => lone (b.at a todo) cs w

theorem putVs_look : ∀ (vs : List V) (i : Nat) (t : Tr V) (j : Nat), look (putVs vs i t) j = if i ≤ j ∧ j < i + vs.length then (vs[j - i]?).getD .undef else look t j
  | [], i, t, j => by rw [putVs, if_neg (by simp)]
  | v :: vs, i, t, j => by
    rw [putVs, putVs_look vs (i + 1)]
    by_cases h1 : i = j
    · subst h1
      rw [if_neg (by omega), if_pos (by simp)]
      simp [look, Tr.get_put_same]
    · by_cases h2 : i + 1 ≤ j ∧ j < i + 1 + vs.length
      · rw [if_pos h2, if_pos (by simp; omega), show j - i = (j - (i + 1)) + 1 by omega]
        simp
      · rw [if_neg h2, if_neg (by simp; omega)]
        simp [look, Tr.get_put_ne _ _ _ _ h1]

theorem enter_inv {args : List V} {w0 : World} {c0 : Cx} {us : Array Value} (hIn : In w0 c0 args us.toList) (k : Nat) : Inv w0 c0 (inH args) k (enter args) { tmps := us ++ Array.replicate (k - us.size) undef, defers := [] } w0 c0 (inH args) := by
  refine ⟨Step.refl hIn.heaps, ⟨fun id hid => ?_, fun id hid => ?_⟩, hIn.A, fun t => ?_, by simp; omega, rfl⟩
  · simp only [enter] at hid ⊢
    rw [putAll_get, if_pos (by omega)]
    simp [inH]
  · simp only [enter] at hid ⊢
    rw [putAll_get, if_neg (by omega)]
    rfl
  · have hl := hIn.vals.1
    simp only [Array.length_toList] at hl
    change R w0 c0 (look (enter args).env t) _
    simp only [enter]
    rw [putVs_look]
    simp only [Act.eval, Array.getD_eq_getD_getElem?]
    by_cases ht : t < (enterA args 0).1.length
    · rw [if_pos (by omega), Nat.sub_zero]
      have h1 := List.getElem?_eq_getElem ht
      have h2 : us.toList[t]? = some (us[t]'(by omega)) := by simp
      rw [h1, Array.getElem?_append_left (by omega), Array.getElem?_eq_getElem (by omega)]
      exact hIn.vals.2 t _ _ h1 h2
    · rw [if_neg (by omega), Array.getElem?_append_right (by omega), Array.getElem?_replicate]
      have : look (Tr.e : Tr V) t = .undef := rfl
      rw [this]
      split <;> exact R.undef

theorem meets_of {n : Nat} (V : Valid P T) (h : RunOk P T n) (f : FuncId) (d : Def) (hd : T f = some d) : Meets P f (callBy T (runN T n) f) := by
  intro args r hr w c0 us hIn
  unfold callBy at hr
  rw [hd] at hr
  cases d with
  | prim p => exact V.prim f p hd args r hr w c0 us hIn
  | code fi =>
    obtain ⟨fn, hfn, _, hb⟩ := V.fn f _ hd
    have hc := V.code f fi hd fn hfn
    unfold cFn at hc
    obtain ⟨body, hbody, hc⟩ := Option.bind_eq_some_iff.1 hc
    obtain ⟨cc, hcc, hc⟩ := Option.bind_eq_some_iff.1 hc
    obtain ⟨rs, hrs, he⟩ := Option.map_eq_some_iff.1 hc
    simp only [Prod.mk.injEq] at he
    obtain ⟨e1, e2, e3⟩ := he
    rw [e1] at hcc
    subst e2
    intro cs
    let b : Frame := { (default : Frame) with fn := f, kind := .normal }
    have henter : Frame.enter P f us .normal = b.at { tmps := us ++ Array.replicate (fn.ntmps - us.size) undef, defers := [] } [.code body] := by
      simp [Frame.enter, Frame.at, hfn, hbody, b]
    rw [henter, e1]
    obtain ⟨u, w', fr, g1, g2, g3, g4⟩ := h f fi fn hfn hd _ _ r hr b _ [.code body] w w c0 c0 _ args us.toList rfl rfl (.code hcc .nil) hIn (enter_inv hIn fi.nt) rfl cs
    exact ⟨.returned u, w', fr, ⟨u, rfl, g1⟩, g2, g3, g4⟩

theorem run_ok (V : Valid P T) : ∀ n, RunOk P T n
  | 0 => fun f fi fn hfn hT todo' s r hr => by cases hr
  | n + 1 => by
    intro f fi fn hfn hT todo' s r hr b a todo w0 w c0 c H args us hbf hbk hTd hIn hInv hbx
    have ih := run_ok V n
    have hAns : ∀ g d, T g = some d → Answers P g (callBy T (runN T n) g) := fun g d hd => by
      obtain ⟨fn', h1, h2, h3⟩ := V.fn g d hd
      exact (meets_of V ih g d hd).answers h1 h2 h3
    have hc := V.code f fi hT fn hfn
    unfold cFn at hc
    obtain ⟨body, hbody, hc⟩ := Option.bind_eq_some_iff.1 hc
    obtain ⟨cc, hcc, hc⟩ := Option.bind_eq_some_iff.1 hc
    obtain ⟨rs, hrs, he⟩ := Option.map_eq_some_iff.1 hc
    simp only [Prod.mk.injEq] at he
    obtain ⟨e1, e2, e3⟩ := he
    rw [e3] at hrs
    have go : ∀ {todo2' : List It} {todo2 : List Item}, runN T n fi todo2' s = some r → Todo P fi.nt todo2 todo2' → (∀ cs, Steps P (lone (b.at a todo) cs w) (lone (b.at a todo2) cs w)) → Ends P f w0 c0 args r fun cs => lone (b.at a todo) cs w :=
      fun h1 h2 h3 => Ends.step h3 (ih f fi fn hfn hT _ s r h1 b a _ w0 w c0 c H args us hbf hbk h2 hIn hInv hbx)
    have fin : finish fi s = some r → (∀ cs, ∃ todo2, Steps P (lone (b.at a todo) cs w) (lone { b.at a todo2 with mode := .returning } cs w)) → Ends P f w0 c0 args r fun cs => lone (b.at a todo) cs w := by
      intro hf hs cs
      obtain ⟨vals, hv, hB⟩ := finish_back hIn hInv.step hInv.agree hbx hf
      obtain ⟨us', hus, hRs⟩ := results_sound (a := a) (fn := fn) hInv.step.heaps hInv.agree.sub hInv.env hrs hv
      obtain ⟨todo2, hst⟩ := hs cs
      exact ⟨tupled us', w, _, hB us' hRs, hst, hbf, rfl, hInv.defers, hbk, fn, by simpa [Frame.at, hbf] using hfn, hus⟩
    change move T (runN T n) fi todo' s = some r at hr
    cases hTd with
    | nil => exact fin hr fun cs => ⟨_, .one step_end⟩
    | inB id hk => exact go hr hk fun cs => .one step_inBlock
    | inL h hk => exact go hr (.code h (.inL h hk)) fun cs => .one step_inLoop
    | inS h hk => exact go hr hk fun cs => .one step_inScope
    | @code cd cd' k k' h hk =>
      cases cd with
      | skip => cases h; exact go hr hk fun cs => .one step_skip
      | region id ops d =>
        obtain ⟨cops, hcr, rfl⟩ := Option.map_eq_some_iff.1 h
        obtain ⟨s', hs', hr⟩ := Option.bind_eq_some_iff.1 hr
        have hw := region_sound V.mixed hAns hcr hs' hInv id d
        intro cs
        obtain ⟨e, a', w', ⟨he, hbx', c', H', hInv'⟩, harr⟩ := hw b k cs
        subst he
        have hE := ih f fi fn hfn hT _ s' r hr b a' _ w0 w' c0 c' H' args us hbf hbk hk hIn hInv' (hbx'.trans hbx)
        obtain ⟨u, w2, fr, g1, g2, g3⟩ := hE cs
        exact ⟨u, w2, fr, g1, Steps.trans harr g2, g3⟩
      | seq x y =>
        simp only [cCode, Option.bind_eq_some_iff, Option.map_eq_some_iff] at h
        obtain ⟨x', hx, y', hy, rfl⟩ := h
        exact go hr (.code hx (.code hy hk)) fun cs => .one step_seq
      | cond x y z =>
        simp only [cCode, Option.bind_eq_some_iff, Option.map_eq_some_iff] at h
        obtain ⟨x', hx, y', hy, z', hz, rfl⟩ := h
        simp only [move] at hr
        split at hr
        · rename_i t ht
          have hev : a.eval x = .bool t := by
            have := opd_sound hInv.env hx
            rw [ht] at this
            exact this.bool_inv
          refine go hr (.code ?_ hk) fun cs => .one (step_cond hev)
          cases t
          · exact hz
          · exact hy
        · cases hr
      | block id x =>
        obtain ⟨x', hx, rfl⟩ := Option.map_eq_some_iff.1 h
        exact go hr (.code hx (.inB id hk)) fun cs => .one step_block
      | loop x =>
        obtain ⟨x', hx, rfl⟩ := Option.map_eq_some_iff.1 h
        exact go hr (.code hx (.inL hx hk)) fun cs => .one step_loop
      | exit id =>
        cases h
        obtain ⟨k2', he, hr⟩ := Option.bind_eq_some_iff.1 hr
        obtain ⟨k2, h1, h2⟩ := hk.exit he
        exact go hr h2 fun cs => .one (step_exit h1)
      | scope x =>
        obtain ⟨x', hx, rfl⟩ := Option.map_eq_some_iff.1 h
        exact go hr (.code hx (.inS hx hk)) fun cs => .one step_scope
      | label l => cases h; exact go hr hk fun cs => .one step_label
      | goto l =>
        cases h
        obtain ⟨k2', he, hr⟩ := Option.bind_eq_some_iff.1 hr
        obtain ⟨k2, h1, h2⟩ := hk.goto he
        exact go hr h2 fun cs => .one (step_goto h1)
      | ret => cases h; exact fin hr fun cs => ⟨_, .one step_ret⟩
      | _ => cases h; cases hr

/-- What FM answers, the program answers. -/
theorem call_sound (V : Valid P T) {f : FuncId} {d : Def} (hd : T f = some d) : Meets P f (call T f) := by
  intro args r hr
  obtain ⟨n, hn⟩ := runN_of_call T hr
  exact meets_of V (run_ok V n) f d hd args r hn
end
end Go.Fm
end
