/- MeanStars: a star of a star is it; a star matches as often as one likes. Proved for every input, with no further condition. -/
import Derived.Test.YtcnbopgbmimkcaaGreatLaw
import Derived.Test.YtcnbopgbmimkcaaGreatRow
import Derived.Test.YtcnbopgbmimkcaaGreatRows
set_option linter.all false
set_option linter.unusedSimpArgs false
set_option linter.unusedVariables false
set_option linter.unnecessarySimpa false
set_option linter.unusedSectionVars false
section
set_option autoImplicit false
set_option maxRecDepth 100000
set_option linter.unusedSimpArgs false
set_option linter.unusedVariables false
namespace Go.Proofs.YtcnbopgbmimkcaaGreat
open Go Go.Fm Go.Proofs
theorem stars_loop (e : List Int) (he : e.length < 1000000) (k : Int) (K : List It) (r : Option Res) (id : Nat) (L : Heap) (nx : Nat) (hL : L.get id = some (.row 1 true true (e.map iv))) : ∀ (n i : Nat) (env : Tr V) (b : Bool), n = e.length - i → i ≤ e.length →
    Fm.look env 14 = .sl id 1 0 e.length → Fm.look env 11 = .int .i64 k → Fm.look env 15 = .bool b → Fm.look env 16 = .int .i64 (i : Int) →
    (∀ env' : Tr V, (∀ t, t < 15 → Fm.look env' t = Fm.look env t) → Fm.look env' 15 = .bool (b || (e.drop i).any (· == k)) → Fm.run T fi_hyphenlaw6_MeanStars K ⟨env', L, nx, []⟩ = r) →
    Fm.run T fi_hyphenlaw6_MeanStars (.inL c_hyphenlaw6_MeanStars_5 :: .inB 0 :: K) ⟨env, L, nx, []⟩ = r := by
  intro n
  induction n with
  | zero =>
    intro i env b hn hi h14 h11 h15 h16 hK
    have : ¬ ((i : Int) < (e.length : Int)) := by omega
    rw [run_inL]
    simp (disch := first | omega | assumption | simp) [h14, h11, h15, h16, this]
    refine hK _ (fun t ht => ?_) ?_
    · simp (disch := omega)
    · rw [List.drop_eq_nil_of_le (by omega)]
      simp [h15]
  | succ n ih =>
    intro i env b hn hi h14 h11 h15 h16 hK
    have hlt : (i : Int) < (e.length : Int) := by omega
    have hil : i < e.length := by omega
    have ge : e[i]? = some e[i] := List.getElem?_eq_getElem hil
    rw [run_inL]
    cases b with
    | true =>
      simp (disch := first | omega | assumption | simp) [h14, h11, h15, h16, hlt, ge, hL]
      refine ih (i + 1) _ true (by omega) (by omega) (by simp [h14]) (by simp [h11]) (by simp) (by simp) fun env' h1 h2 => ?_
      refine hK env' (fun t ht => ?_) (by simpa using h2)
      rw [h1 t ht]
      simp (disch := omega)
    | false =>
      simp (disch := first | omega | assumption | simp) [h14, h11, h15, h16, hlt, ge, hL]
      refine ih (i + 1) _ (e[i] == k) (by omega) (by omega) (by simp [h14]) (by simp [h11]) (by simp) (by simp) fun env' h1 h2 => ?_
      refine hK env' (fun t ht => ?_) ?_
      · rw [h1 t ht]
        simp (disch := omega)
      · rw [h2, List.drop_eq_getElem_cons hil, List.any_cons, Bool.false_or]

theorem endsL_len : ∀ (c : List Int) (i : Nat), (endsL c i).length ≤ c.length
  | [], i => by simp [endsL]
  | x :: c, i => by
    have := endsL_len c (i + 1)
    unfold endsL
    split <;> simp only [List.length_cons] <;> omega
theorem star_ok (x : Px) : (Px.star x).ok = x.ok := rfl
set_option maxHeartbeats 4000000
theorem Stars_eq {v vt : V} {l : List Rw} {ns : List Int} (hv : Slr v l) (ht : Slc vt ns) (a : Int) : call T F_hyphenlaw6_MeanStars [v, vt, .int .i64 a] = some (.bool true, []) := by
  have hpl := hv.pl
  have hpl' := hv.pl'
  have htp := ht.pl
  have htp' := ht.pl'
  have hk := known_eq
  have hd := Defs_eq
  obtain ⟨b, hfew⟩ := Few_eq hv
  cases b with
  | false =>
    rw [call_code T T_hyphenlaw6_MeanStars, enter_args (by simp [hpl, hpl', htp, htp'])]
    simp (disch := first | omega | assumption | simp) [hk, hfew]
  | true =>
  obtain ⟨x, y, hx, hy, hs⟩ := sides_eq hv
  obtain ⟨sc, hsl, hText⟩ := Text_eq ht 6 (by omega)
  have hText6 : call T F_hyphenlaw6_Text [vt, .int .i64 6] = some (slI sc, []) := hText
  have hvs := Slc.slI sc
  have hlen := hvs.len
  have hsp := hvs.pl
  have hsp' := hvs.pl'
  have hsc := hvs.cl
  have hsn := hvs.no
  have hw := within6_eq a (sc.length + 1) (by omega) (by omega)
  have hw0 := wth_nn (a := a) (n := (sc.length : Int) + 1) (by omega)
  have hw1 := wth_lt (a := a) (n := (sc.length : Int) + 1) (by omega)
  obtain ⟨k, hk'⟩ : ∃ k : Nat, wth a (sc.length + 1) = k := ⟨(wth a (sc.length + 1)).toNat, by omega⟩
  rw [hk'] at hw hw0 hw1
  have hE := Ends_eq (.star x) hx sc (by omega) k (by omega)
  have hE2 := Ends_eq (.cat (.star x) (.star x)) (by simp [Px.ok, hx]) sc (by omega) k (by omega)
  have hE3 := Ends_eq (.star (.star x)) hx sc (by omega) k (by omega)
  rw [star_cat sc x hx _ (unit_gd _ _)] at hE2
  rw [star_star sc x hx _ (unit_gd _ _)] at hE3
  have hin := star_here sc x hx k (by omega)
  have hel : (endsL ((Px.star x).run sc (unitI (sc.length + 1) k)) 0).length < 1000000 := by
    have h1 := endsL_len ((Px.star x).run sc (unitI (sc.length + 1) k)) 0
    have h2 := (((Px.star x).rep sc hx).gd _ (unit_gd _ k)).len
    omega
  generalize endsL ((Px.star x).run sc (unitI (sc.length + 1) k)) 0 = e at *
  have hpos : 0 < e.length := List.length_pos_of_mem hin
  rw [slO_pos hpos] at hE hE2 hE3
  have hany : e.any (· == (k : Int)) = true := List.any_eq_true.2 ⟨_, hin, by simp⟩
  have hI := Ints_eq (Slc.ints e) (Slc.ints e) hel
  simp only [beq_self_eq_true] at hI
  have e1 : ∀ z : Px, [V.int .i64 6, .int .i64 0, .int .i64 0, .int .i64 0, .str [], .arr .fresh 6 [z.cells]] = (Px.star z).cells := fun z => rfl
  have e2 : ∀ z w : Px, [V.int .i64 4, .int .i64 0, .int .i64 0, .int .i64 0, .str [], .arr .fresh 6 [z.cells, w.cells]] = (Px.cat z w).cells := fun z w => rfl
  generalize slI sc = vs at *
  rw [call_code T T_hyphenlaw6_MeanStars, enter_args (by simp [hpl, hpl', htp, htp'])]
  simp (disch := first | omega | assumption | simp) [-List.all_eq_true, -List.any_eq_true, -List.any_eq_false, px_hasRef, hk, hfew, hd, hs, hText6, hlen, hw, hE, finQ_agg, finQ_tup2, finQ_pl, store_bx, storeBx_box, passV_agg, passAg_some, mapO_nil', mapO_cons', dr_int', dr_str', dr_slU, drU_clean, drU_unclean, refs_slU, refsU_clean, refsU_unclean, refs_int', refs_str', dr_px, refs_px, e1, e2]
  refine stars_loop e hel k [.code c_hyphenlaw6_MeanStars_0] _ 7 _ _ (by simp) e.length 0 _ false (by omega) (by omega) (by simp) (by simp) (by simp) (by simp) fun env' hkeep h15 => ?_
  have k7 := hkeep 7 (by omega)
  have k10 := hkeep 10 (by omega)
  have k11 := hkeep 11 (by omega)
  have k12 := hkeep 12 (by omega)
  have k13 := hkeep 13 (by omega)
  have k14 := hkeep 14 (by omega)
  simp (disch := omega) at k7 k10 k11 k12 k13 k14
  simp [hany] at h15
  clear hkeep
  simp (disch := first | omega | assumption | simp) [-List.all_eq_true, -List.any_eq_true, -List.any_eq_false, px_hasRef, k7, k10, k11, k12, k13, k14, h15, hE2, hE3, hI, finQ_agg, finQ_tup2, finQ_pl, store_bx, storeBx_box, passV_agg, passAg_some, mapO_nil', mapO_cons', dr_int', dr_str', dr_slU, drU_clean, drU_unclean, refs_slU, refsU_clean, refsU_unclean, refs_int', refs_str', dr_px, refs_px, e1, e2]
end Go.Proofs.YtcnbopgbmimkcaaGreat
end

section
set_option autoImplicit false
set_option maxRecDepth 100000
set_option linter.unusedSimpArgs false
set_option linter.unusedVariables false
namespace Go.Proofs.YtcnbopgbmimkcaaGreat
open Go Go.Fm Go.Proofs
open Go.ChangeShapes Go.WideShapes Go.ChangeAt Go.RowKit
theorem laid : laidOutB Tryz.prog = true := by kernel_rfl
theorem ownKnob_none : ownKnob Tryz.prog.godebug = Option.none := by kernel_rfl
theorem rawT : RawT Tryz.prog 57 22 3 where
  sl := Tryz.underlying22
  size := by kernel_rfl
  int := Tryz.underlying3
  one := by kernel_rfl
  onel := by kernel_rfl
  st := ⟨_, Tryz.underlying57, ⟨_, rfl, rfl, rfl⟩, ⟨_, rfl, rfl, rfl⟩, ⟨_, rfl, rfl, rfl⟩⟩
theorem arg_raws {H : Type} {enc : TypeId × Value → H} {W : World} {base : Nat} {v : Value} {d : DataW H} {ps : List MemPlace} (hval : Value.okWide Tryz.prog W .any base 22 v) (h : DataW.Trod enc Tryz.prog W 0 (fun _ => true) true 22 v d ps) :
    ∃ (x : V) (l : List Rw), Slr x l ∧ R W (rowC W) x v := by
  obtain ⟨a, len, cap, rfl⟩ := okWide_slice Tryz.underlying22 hval
  obtain ⟨fuel, hf⟩ := h
  obtain ⟨x, l, h1, _, h2⟩ := tree_raws rawT fuel _ _ hf (rowC W) fun b hb => hb
  exact ⟨x, l, h1, h2⟩
theorem arg_ints {H : Type} {enc : TypeId × Value → H} {W : World} {base : Nat} {v : Value} {d : DataW H} {ps : List MemPlace} (hval : Value.okWide Tryz.prog W .any base 23 v) (h : DataW.Trod enc Tryz.prog W 0 (fun _ => true) true 23 v d ps) :
    ∃ (x : V) (l : List Int), Slc x l ∧ R W (rowC W) x v := by
  obtain ⟨a, len, cap, rfl⟩ := okWide_slice Tryz.underlying23 hval
  obtain ⟨fuel, hf⟩ := h
  exact tree_ints Tryz.underlying23 Tryz.underlying3 (by kernel_rfl) hf (rowC W) fun b hb => hb
theorem arg_int {H : Type} {enc : TypeId × Value → H} {W : World} {base : Nat} {v : Value} {d : DataW H} {ps : List MemPlace} (hval : Value.okWide Tryz.prog W .any base 3 v) (h : DataW.Trod enc Tryz.prog W 0 (fun _ => true) true 3 v d ps) :
    ∃ n : Int, R W (rowC W) (.int .i64 n) v := by
  obtain ⟨n, rfl, _, _, _⟩ := open_int Tryz.underlying3 hval h
  exact ⟨n, .int _ _⟩
/-- What behind a law that answers true stands. -/
theorem law_post {H : Type} {enc : TypeId × Value → H} {W W' : World} {fn : Func} {s : ChangeSpec} {args : Array Value} {ds gs : List (DataW H)} {before : List MemPlace}
    (hW : DataW.Whole enc Tryz.prog fn.params.toList s.vars false W args.toList ds gs before) (hvars : s.vars = []) (hres : fn.resultTypes = #[4])
    (hfn : s.fn H (ds ++ gs) = { results := [.lit (.bool true)], args := ds }) (ht : ∀ t ∈ fn.params.toList, Tryz.prog.readableRec t = true ∧ t < Tryz.prog.types.size) (hb : Below W.heap.size W W') :
    s.post enc Tryz.prog fn false true false false W args (.bool true) W' := by
  have hW' := hW
  obtain ⟨p, q, hA, hV, rfl, hfz, hnd⟩ := hW
  rw [hvars] at hV
  obtain ⟨rfl, rfl⟩ := trodVars_none hV
  have hlt : ∀ x ∈ p ++ [], x.block < W.heap.size := fun x hx => hW'.lt x hx
  refine post_of_below (pa := p) (pv := []) hW' (fun b sp hd => ?_) (fun sp hsp => ?_) (fun sp hsp => ?_) rfl hb ?_
  · rw [hres, hfn]
    exact trodAll_mk1 (shut_bool Tryz.underlying4 _)
  · rw [hfn]
    exact trodAll_stays laid hb _ _ _ _ ht hA fun x hx => ⟨hlt x (by simpa using hx), hsp x (by simpa using hx)⟩
  · rw [hvars, hfn]
    exact rfl
  · exact ok_one hres rfl (okWide_bool_mk Tryz.underlying4 _)
theorem stars_contract (H : Type) (enc : TypeId × Value → H) (W : World) (base : Nat) (args : Array Value) (ds gs : List (DataW H)) (before : List MemPlace)
    (hval : ∀ (j : Nat) t v, Tryz.f7.params[j]? = some t → args[j]? = some v → Value.okWide Tryz.prog W .any base t v)
    (hW : DataW.Whole enc Tryz.prog Tryz.f7.params.toList Rows.meanStarsSpec.vars false W args.toList ds gs before) :
    Calls Tryz.prog 7 args W fun e W' => ∃ v, e = .returned v ∧ Rows.meanStarsSpec.post enc Tryz.prog Tryz.f7 false true false false W args v W' := by
  have hW' := hW
  obtain ⟨p, q, hA0, hV, rfl, hfz, hnd⟩ := hW
  have hA : DataW.TrodAll enc Tryz.prog W 0 (fun _ => true) true Tryz.f7.params.toList args.toList ds p := hA0
  rw [Tryz.params7] at hA hval
  obtain ⟨v0, v1, v2, d0, d1, d2, p0, p1, p2, rfl, rfl, rfl, h0, h1, h2⟩ := trodAll_three hA
  obtain ⟨rfl, rfl⟩ := trodVars_none hV
  obtain ⟨x0, l, s0, r0⟩ := arg_raws (hval 0 22 v0 rfl rfl) h0
  obtain ⟨x1, ns, s1, r1⟩ := arg_ints (hval 1 23 v1 rfl rfl) h1
  obtain ⟨n, r2⟩ := arg_int (hval 2 3 v2 rfl rfl) h2
  refine (law_calls valid T_hyphenlaw6_MeanStars (xs := [x0, x1, .int .i64 n]) (fun a ha => ?_) (Stars_eq s0 s1 n) (us := #[v0, v1, v2]) (.cons r0 (.cons r1 (.cons r2 (.nil _ _))))).mono fun e W' ⟨he, hb⟩ => ?_
  · simp only [List.mem_cons, List.not_mem_nil, or_false] at ha
    rcases ha with rfl | rfl | rfl
    · exact s0.pl'
    · exact s1.pl'
    · rfl
  · exact ⟨_, he, law_post hW' rfl (by kernel_rfl) rfl (by rw [Tryz.params7]; exact of_decide_eq_true (by kernel_rfl)) hb⟩
set_option maxRecDepth 100000 in
theorem stars_lifted (os : Os) (started : os.Started) (H : Type) (enc : TypeId × Value → H) :
    ReturnsInHanded {} Tryz.checked os 7 .any (Rows.meanStarsSpec.pre6 enc Tryz.prog Tryz.f7 Rows.meanStarsRow.domain false) (Rows.meanStarsSpec.post enc Tryz.prog Tryz.f7 false true false false) := by
  refine returnsInHanded_of_change (C := Tryz.checked) ownKnob_none started (by kernel_rfl) Tryz.func7
    (ChangeSpec.witness6 (enc := enc) (C := Tryz.checked) false ⟨#[], #[.slice Option.none 0 0, .slice Option.none 0 0, .int .i64 0], []⟩ 8 (by kernel_rfl) (by kernel_rfl) (by kernel_rfl) (by kernel_rfl)) ?_
  intro W base args ds gs before hval hW _ _
  exact stars_contract H enc W base args ds gs before hval hW
theorem MeanStars_holds : Rows.MeanStarsSaid :=
  OpenClaim.holds_of_wide 7 Tryz.f7 rfl rfl rfl rfl rfl rfl rfl ⟨rfl, rfl, rfl, rfl, rfl⟩ rfl rfl rfl rfl rfl (by kernel_rfl) Tryz.func7 (by kernel_rfl)
    (of_decide_eq_true (by kernel_rfl)) (by unfold Func.isWrapper; first | (rw [if_pos (by decide +kernel)]; kernel_rfl) | (rw [if_neg (by decide +kernel)]; exact ⟨rfl, rfl⟩))
    (fun os started H enc _ => stars_lifted os started H enc)
end Go.Proofs.YtcnbopgbmimkcaaGreat
#print axioms Go.Proofs.YtcnbopgbmimkcaaGreat.MeanStars_holds
end
