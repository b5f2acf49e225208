/- FM's code of functions that the statements reach: printed by a program of this session (FmGen) out of FM's translation. -/
import Derived.Test.YtcnbopgbmimkcaaGreatFc0
import Derived.Test.YtcnbopgbmimkcaaGreatFc1
import Derived.Test.YtcnbopgbmimkcaaGreatFc2
import Derived.Test.YtcnbopgbmimkcaaGreatFc3
import Derived.Test.YtcnbopgbmimkcaaGreatFc4
import Derived.Test.YtcnbopgbmimkcaaGreatFc5
import Derived.Test.YtcnbopgbmimkcaaGreatFc6
import Derived.Test.YtcnbopgbmimkcaaGreatFc7
set_option linter.all false
set_option linter.unusedSimpArgs false
set_option linter.unusedVariables false
set_option linter.unnecessarySimpa false
set_option linter.unusedSectionVars false
set_option autoImplicit false
set_option maxRecDepth 100000
namespace Go.Proofs.YtcnbopgbmimkcaaGreat
open Go Go.Fm Go.Proofs
def fns : List (Nat × Def) := [(F_hyphenlaw6_MeanRules, .code fi_hyphenlaw6_MeanRules), (F_hyphenlaw6_MeanCats, .code fi_hyphenlaw6_MeanCats), (F_hyphenlaw6_MeanTimes, .code fi_hyphenlaw6_MeanTimes), (F_hyphenlaw6_MeanLonger, .code fi_hyphenlaw6_MeanLonger), (F_hyphenlaw6_MeanStars, .code fi_hyphenlaw6_MeanStars), (F_hyphenlaw6_MeanOwn, .code fi_hyphenlaw6_MeanOwn), (F_hyphenlaw6_known, .code fi_hyphenlaw6_known), (F_hyphenlaw5_Few, .code fi_hyphenlaw5_Few), (F_hyphenlaw5_File, .code fi_hyphenlaw5_File), (F_hyphenlaw6_Text, .code fi_hyphenlaw6_Text), (F_mean_Breaks, .code fi_mean_Breaks), (F_hyphenlaw6_within, .code fi_hyphenlaw6_within), (F_hyphenref1_Vecs, .code fi_hyphenref1_Vecs), (F_hyphenlaw5_Defs, .code fi_hyphenlaw5_Defs), (F_hyphenlaw6_sides, .code fi_hyphenlaw6_sides), (F_hyphenref1_Add, .code fi_hyphenref1_Add), (F_mean_Cost, .code fi_mean_Cost), (F_hyphenref6_Between, .code fi_hyphenref6_Between), (F_mean_Ends, .code fi_mean_Ends), (F_hyphenref1_Ints, .code fi_hyphenref1_Ints), (F_hyphenref5_Same, .code fi_hyphenref5_Same), (F_hyphenref6_Breaks, .code fi_hyphenref6_Breaks), (F_hyphenlaw5_Raw_Make, .code fi_hyphenlaw5_Raw_Make), (F_hyphenref5_Sets, .code fi_hyphenref5_Sets), (F_hyphenref5_Parse, .code fi_hyphenref5_Parse), (F_hyphenref1_None, .code fi_hyphenref1_None), (F_hyphenlaw5_size, .code fi_hyphenlaw5_size), (F_hyphenlaw5_within, .code fi_hyphenlaw5_within), (F_mean_begin, .code fi_mean_begin), (F_slices_Clone_Slint_int, .code fi_slices_Clone_Slint_int), (F_slices_Reverse_Slint_int, .code fi_slices_Reverse_Slint_int), (F_mean_text_run, .code fi_mean_text_run), (F_trop_None, .code fi_trop_None), (F_mean_mirrored, .code fi_mean_mirrored), (F_trop_Min, .code fi_trop_Min), (F_trop_Add, .code fi_trop_Add), (F_slices_Clone_Slapi_Vec_api_Vec, .code fi_slices_Clone_Slapi_Vec_api_Vec), (F_hyphenlaw5_ranged, .code fi_hyphenlaw5_ranged), (F_hyphenlaw5_names, .code fi_hyphenlaw5_names), (F_hyphenlaw5_class, .code fi_hyphenlaw5_class), (F_hyphenref6_costs, .code fi_hyphenref6_costs), (F_mean_text_none, .code fi_mean_text_none), (F_hyphenref5_Classes, .code fi_hyphenref5_Classes), (F_hyphenref5_Rexes, .code fi_hyphenref5_Rexes), (F_hyphenlaw5_Raw_part, .code fi_hyphenlaw5_Raw_part), (F_hyphenref5_ranges, .code fi_hyphenref5_ranges), (F_hyphenref3_Has, .code fi_hyphenref3_Has), (F_syn_Sets, .code fi_syn_Sets), (F_set_Has, .code fi_set_Has), (F_hyphenref5_reader_next, .code fi_hyphenref5_reader_next), (F_hyphenref5_reader_is, .code fi_hyphenref5_reader_is), (F_hyphenref5_reader_def, .code fi_hyphenref5_reader_def), (F_hyphenref5_reader_has, .code fi_hyphenref5_reader_has), (F_hyphenref5_cat, .code fi_hyphenref5_cat), (F_hyphenref5_reader_rule, .code fi_hyphenref5_reader_rule), (F_hyphenref5_reader_fail, .code fi_hyphenref5_reader_fail), (F_mean_text_run_1, .code fi_mean_text_run_1), (F_mean_bare, .code fi_mean_bare), (F_mean_text_dearer, .code fi_mean_text_dearer), (F_mean_nothing, .code fi_mean_nothing), (F_mean_text_on, .code fi_mean_text_on), (F_mean_least, .code fi_mean_least), (F_mean_text_often, .code fi_mean_text_often), (F_slices_Equal_mean_costs_int, .code fi_slices_Equal_mean_costs_int), (F_slices_Reverse_Slapi_Rex_api_Rex, .code fi_slices_Reverse_Slapi_Rex_api_Rex), (F_hyphenref6_unit, .code fi_hyphenref6_unit), (F_hyphenref6_empty, .code fi_hyphenref6_empty), (F_hyphenref5_Find, .code fi_hyphenref5_Find), (F_hyphenref6_less, .code fi_hyphenref6_less), (F_hyphenref6_behind, .code fi_hyphenref6_behind), (F_cmp_Or_int, .code fi_cmp_Or_int), (F_cmp_Compare_int, .code fi_cmp_Compare_int), (F_hyphenref3_Norm, .code fi_hyphenref3_Norm), (F_hyphenref3_Not, .code fi_hyphenref3_Not), (F_hyphenref3_Or, .code fi_hyphenref3_Or), (F_hyphenref3_And, .code fi_hyphenref3_And), (F_hyphenref3_Less, .code fi_hyphenref3_Less), (F_syn_known_of, .code fi_syn_known_of), (F_slices_Clone_Slapi_Range_api_Range, .code fi_slices_Clone_Slapi_Range_api_Range), (F_slices_Clone_SlSlapi_Range_Slapi_Range, .code fi_slices_Clone_SlSlapi_Range_Slapi_Range), (F_hyphenref5_reader_skip, .code fi_hyphenref5_reader_skip), (F_hyphenref5_one, .code fi_hyphenref5_one), (F_hyphenref5_Key, .code fi_hyphenref5_Key), (F_hyphenref5_reader_take, .code fi_hyphenref5_reader_take), (F_hyphenref5_reader_class, .code fi_hyphenref5_reader_class), (F_hyphenref5_reader_num, .code fi_hyphenref5_reader_num), (F_hyphenref5_reader_rex, .code fi_hyphenref5_reader_rex), (F_slices_ContainsFunc_Slapi_Rex_api_Rex, .code fi_slices_ContainsFunc_Slapi_Rex_api_Rex), (F_mean_bare_1, .code fi_mean_bare_1), (F_slices_Clone_mean_costs_int, .code fi_slices_Clone_mean_costs_int), (F_mean_text_of, .code fi_mean_text_of), (F_mathbits_Len, .code fi_mathbits_Len), (F_cmp_isNaN_int, .code fi_cmp_isNaN_int), (F_hyphenref3_sorted, .code fi_hyphenref3_sorted), (F_syn_child_api_Class, .code fi_syn_child_api_Class), (F_set_Norm, .code fi_set_Norm), (F_set_Not, .code fi_set_Not), (F_set_Or, .code fi_set_Or), (F_set_And, .code fi_set_And), (F_set_Less, .code fi_set_Less), (F_hyphenref5_small, .code fi_hyphenref5_small), (F_hyphenref5_digit, .code fi_hyphenref5_digit), (F_hyphenref5_hex, .code fi_hyphenref5_hex), (F_hyphenref5_reader_both, .code fi_hyphenref5_reader_both), (F_hyphenref5_reader_row, .code fi_hyphenref5_reader_row), (F_slices_IndexFunc_Slapi_Rex_api_Rex, .code fi_slices_IndexFunc_Slapi_Rex_api_Rex), (F_mathbits_Len32, .code fi_mathbits_Len32), (F_mathbits_Len64, .code fi_mathbits_Len64), (F_slices_SortFunc_Slapi_Range_api_Range, .code fi_slices_SortFunc_Slapi_Range_api_Range), (F_set_Norm_1, .code fi_set_Norm_1), (F_slices_Concat_Slapi_Range_api_Range, .code fi_slices_Concat_Slapi_Range_api_Range), (F_hyphenref5_reader_part, .code fi_hyphenref5_reader_part), (F_hyphenref5_reader_begins, .code fi_hyphenref5_reader_begins), (F_hyphenref5_reader_piece, .code fi_hyphenref5_reader_piece), (F_slices_nextPowerOfTwo, .code fi_slices_nextPowerOfTwo), (F_slices_xorshift_Next, .code fi_slices_xorshift_Next), (F_slices_pdqsortCmpFunc_api_Range, .code fi_slices_pdqsortCmpFunc_api_Range), (F_slices_Grow_Slapi_Range_api_Range, .code fi_slices_Grow_Slapi_Range_api_Range), (F_hyphenref5_reader_ranged, .code fi_hyphenref5_reader_ranged), (F_hyphenref5_reader_inner, .code fi_hyphenref5_reader_inner), (F_hyphenref5_reader_known, .code fi_hyphenref5_reader_known), (F_hyphenref5_reader_behind, .code fi_hyphenref5_reader_behind), (F_slices_insertionSortCmpFunc_api_Range, .code fi_slices_insertionSortCmpFunc_api_Range), (F_slices_heapSortCmpFunc_api_Range, .code fi_slices_heapSortCmpFunc_api_Range), (F_slices_breakPatternsCmpFunc_api_Range, .code fi_slices_breakPatternsCmpFunc_api_Range), (F_slices_choosePivotCmpFunc_api_Range, .code fi_slices_choosePivotCmpFunc_api_Range), (F_slices_reverseRangeCmpFunc_api_Range, .code fi_slices_reverseRangeCmpFunc_api_Range), (F_slices_partialInsertionSortCmpFunc_api_Range, .code fi_slices_partialInsertionSortCmpFunc_api_Range), (F_slices_partitionEqualCmpFunc_api_Range, .code fi_slices_partitionEqualCmpFunc_api_Range), (F_slices_partitionCmpFunc_api_Range, .code fi_slices_partitionCmpFunc_api_Range), (F_slices_siftDownCmpFunc_api_Range, .code fi_slices_siftDownCmpFunc_api_Range), (F_slices_medianAdjacentCmpFunc_api_Range, .code fi_slices_medianAdjacentCmpFunc_api_Range), (F_slices_medianCmpFunc_api_Range, .code fi_slices_medianCmpFunc_api_Range), (F_slices_order2CmpFunc_api_Range, .code fi_slices_order2CmpFunc_api_Range)]
def tab : Tr Def := (.n (.n (.n (.n (.n (.n (.n (.n .e (some (.code fi_mathbits_Len)) .e) none .e) none (.n (.n .e (some (.code fi_slices_nextPowerOfTwo)) .e) none .e)) (some (.code fi_hyphenlaw6_within)) (.n (.n .e (some (.code fi_mean_text_dearer)) .e) (some (.code fi_hyphenlaw5_ranged)) (.n (.n .e (some (.code fi_slices_partialInsertionSortCmpFunc_api_Range)) .e) (some (.code fi_hyphenref5_reader_skip)) .e))) (some (.code fi_hyphenlaw6_MeanStars)) (.n (.n (.n (.n .e (some (.code fi_set_Less)) .e) (some (.code fi_hyphenref5_reader_is)) .e) (some (.code fi_slices_Clone_Slint_int)) (.n (.n .e (some (.code fi_hyphenref5_reader_known)) .e) (some (.code fi_hyphenref3_Not)) .e)) (some (.code fi_hyphenref1_Ints)) (.n (.n (.n .e (some (.code fi_mathbits_Len64)) .e) (some (.code fi_hyphenref6_empty)) .e) (some (.code fi_hyphenlaw5_Raw_part)) (.n .e (some (.code fi_mean_bare_1)) .e)))) (some (.code fi_hyphenlaw6_MeanRules)) (.n (.n (.n (.n (.n .e (some (.code fi_set_Norm)) .e) (some (.code fi_syn_Sets)) .e) (some (.code fi_hyphenref1_None)) (.n (.n .e (some (.code fi_slices_pdqsortCmpFunc_api_Range)) .e) none .e)) (some (.code fi_hyphenref1_Add)) (.n (.n .e (some (.code fi_mean_text_often)) .e) (some (.code fi_mean_text_none)) (.n (.n .e (some (.code fi_slices_medianAdjacentCmpFunc_api_Range)) .e) (some (.code fi_hyphenref5_reader_class)) .e))) (some (.code fi_hyphenlaw5_Few)) (.n (.n (.n (.n .e (some (.code fi_hyphenref5_reader_both)) .e) (some (.code fi_hyphenref5_reader_rule)) .e) (some (.code fi_mean_mirrored)) (.n (.n .e (some (.code fi_slices_heapSortCmpFunc_api_Range)) .e) none .e)) (some (.code fi_hyphenlaw5_Raw_Make)) (.n (.n (.n .e (some (.code fi_hyphenref5_reader_part)) .e) none .e) (some (.code fi_hyphenref5_ranges)) .e)))) none (.n (.n (.n (.n (.n (.n .e (some (.code fi_hyphenref3_sorted)) .e) none .e) none .e) (some (.code fi_hyphenlaw5_Defs)) (.n (.n .e (some (.code fi_mean_text_on)) .e) (some (.code fi_hyphenlaw5_class)) (.n (.n .e (some (.code fi_slices_partitionCmpFunc_api_Range)) .e) (some (.code fi_hyphenref5_Key)) .e))) none (.n (.n (.n (.n .e (some (.code fi_hyphenref5_digit)) .e) (some (.code fi_hyphenref5_reader_has)) .e) (some (.code fi_mean_text_run)) (.n .e (some (.code fi_hyphenref3_And)) .e)) (some (.code fi_hyphenref6_Breaks)) (.n (.n (.n .e (some (.code fi_set_Norm_1)) .e) (some (.code fi_hyphenref6_less)) .e) none (.n .e (some (.code fi_mean_text_of)) .e)))) (some (.code fi_hyphenlaw6_MeanTimes)) (.n (.n (.n (.n (.n .e (some (.code fi_set_Or)) .e) (some (.code fi_set_Has)) .e) (some (.code fi_hyphenlaw5_within)) (.n (.n .e (some (.code fi_hyphenref5_reader_ranged)) .e) (some (.code fi_cmp_Compare_int)) .e)) (some (.code fi_hyphenref6_Between)) (.n (.n .e (some (.code fi_slices_Reverse_Slapi_Rex_api_Rex)) .e) (some (.code fi_hyphenref5_Rexes)) (.n (.n .e (some (.code fi_slices_order2CmpFunc_api_Range)) .e) (some (.code fi_hyphenref5_reader_rex)) .e))) (some (.code fi_hyphenlaw6_Text)) (.n (.n (.n (.n .e (some (.code fi_slices_IndexFunc_Slapi_Rex_api_Rex)) .e) (some (.code fi_mean_text_run_1)) .e) (some (.code fi_trop_Add)) (.n (.n .e (some (.code fi_slices_choosePivotCmpFunc_api_Range)) .e) (some (.code fi_slices_Clone_Slapi_Range_api_Range)) .e)) (some (.code fi_hyphenref5_Sets)) (.n (.n (.n .e (some (.code fi_hyphenref5_reader_piece)) .e) none .e) none .e))))) none (.n (.n (.n (.n (.n (.n (.n .e (some (.code fi_cmp_isNaN_int)) .e) none .e) none (.n (.n .e (some (.code fi_slices_xorshift_Next)) .e) none .e)) (some (.code fi_hyphenref1_Vecs)) (.n (.n .e (some (.code fi_mean_nothing)) .e) (some (.code fi_hyphenlaw5_names)) (.n (.n .e (some (.code fi_slices_partitionEqualCmpFunc_api_Range)) .e) (some (.code fi_hyphenref5_one)) .e))) (some (.code fi_hyphenlaw6_MeanOwn)) (.n (.n (.n (.n .e (some (.code fi_hyphenref5_small)) .e) (some (.code fi_hyphenref5_reader_def)) .e) (some (.code fi_slices_Reverse_Slint_int)) (.n (.n .e (some (.code fi_hyphenref5_reader_behind)) .e) (some (.code fi_hyphenref3_Or)) .e)) (some (.code fi_hyphenref5_Same)) (.n (.n (.n .e (some (.code fi_slices_SortFunc_Slapi_Range_api_Range)) .e) (some (.code fi_hyphenref5_Find)) .e) none (.n .e (some (.code fi_slices_Clone_mean_costs_int)) .e)))) (some (.code fi_hyphenlaw6_MeanCats)) (.n (.n (.n (.n (.n .e (some (.code fi_set_Not)) .e) none .e) (some (.code fi_hyphenlaw5_size)) (.n (.n .e (some (.code fi_slices_Grow_Slapi_Range_api_Range)) .e) (some (.code fi_cmp_Or_int)) .e)) (some (.code fi_mean_Cost)) (.n (.n .e (some (.code fi_slices_Equal_mean_costs_int)) .e) (some (.code fi_hyphenref5_Classes)) (.n (.n .e (some (.code fi_slices_medianCmpFunc_api_Range)) .e) (some (.code fi_hyphenref5_reader_num)) .e))) (some (.code fi_hyphenlaw5_File)) (.n (.n (.n (.n .e (some (.code fi_hyphenref5_reader_row)) .e) (some (.code fi_hyphenref5_reader_fail)) .e) (some (.code fi_trop_Min)) (.n (.n .e (some (.code fi_slices_breakPatternsCmpFunc_api_Range)) .e) (some (.code fi_syn_known_of)) .e)) none (.n (.n (.n .e (some (.code fi_hyphenref5_reader_begins)) .e) none .e) none .e)))) none (.n (.n (.n (.n (.n (.n .e (some (.code fi_syn_child_api_Class)) .e) (some (.code fi_hyphenref3_Has)) .e) (some (.code fi_hyphenref5_Parse)) .e) (some (.code fi_hyphenlaw6_sides)) (.n (.n .e (some (.code fi_mean_least)) .e) (some (.code fi_hyphenref6_costs)) (.n (.n .e (some (.code fi_slices_siftDownCmpFunc_api_Range)) .e) (some (.code fi_hyphenref5_reader_take)) .e))) (some (.code fi_hyphenlaw6_known)) (.n (.n (.n (.n .e (some (.code fi_hyphenref5_hex)) .e) (some (.code fi_hyphenref5_cat)) .e) (some (.code fi_trop_None)) (.n (.n .e (some (.code fi_slices_insertionSortCmpFunc_api_Range)) .e) (some (.code fi_hyphenref3_Less)) .e)) none (.n (.n (.n .e (some (.code fi_slices_Concat_Slapi_Range_api_Range)) .e) (some (.code fi_hyphenref6_behind)) .e) none .e))) (some (.code fi_hyphenlaw6_MeanLonger)) (.n (.n (.n (.n (.n .e (some (.code fi_set_And)) .e) (some (.code fi_hyphenref5_reader_next)) .e) (some (.code fi_mean_begin)) (.n (.n .e (some (.code fi_hyphenref5_reader_inner)) .e) (some (.code fi_hyphenref3_Norm)) .e)) (some (.code fi_mean_Ends)) (.n (.n (.n .e (some (.code fi_mathbits_Len32)) .e) (some (.code fi_hyphenref6_unit)) .e) none (.n .e (some (.code fi_slices_ContainsFunc_Slapi_Rex_api_Rex)) .e))) (some (.code fi_mean_Breaks)) (.n (.n (.n .e (some (.code fi_mean_bare)) .e) (some (.code fi_slices_Clone_Slapi_Vec_api_Vec)) (.n (.n .e (some (.code fi_slices_reverseRangeCmpFunc_api_Range)) .e) (some (.code fi_slices_Clone_SlSlapi_Range_Slapi_Range)) .e)) none .e)))))
theorem tab_eq : tab = build fns := by kernel_rfl
def T : FuncId → Option Def := tab.get
theorem all_mem {α : Type} {p : α → Prop} {x : α} {l : List α} (h : p x) (k : ∀ y ∈ l, p y) : ∀ y ∈ x :: l, p y := fun y hy => by
  rcases List.mem_cons.1 hy with rfl | hy
  · exact h
  · exact k y hy
theorem fns_ok : ∀ p ∈ fns, OkDef Tryz.prog p.1 p.2 :=
  all_mem v_hyphenlaw6_MeanRules <|
  all_mem v_hyphenlaw6_MeanCats <|
  all_mem v_hyphenlaw6_MeanTimes <|
  all_mem v_hyphenlaw6_MeanLonger <|
  all_mem v_hyphenlaw6_MeanStars <|
  all_mem v_hyphenlaw6_MeanOwn <|
  all_mem v_hyphenlaw6_known <|
  all_mem v_hyphenlaw5_Few <|
  all_mem v_hyphenlaw5_File <|
  all_mem v_hyphenlaw6_Text <|
  all_mem v_mean_Breaks <|
  all_mem v_hyphenlaw6_within <|
  all_mem v_hyphenref1_Vecs <|
  all_mem v_hyphenlaw5_Defs <|
  all_mem v_hyphenlaw6_sides <|
  all_mem v_hyphenref1_Add <|
  all_mem v_mean_Cost <|
  all_mem v_hyphenref6_Between <|
  all_mem v_mean_Ends <|
  all_mem v_hyphenref1_Ints <|
  all_mem v_hyphenref5_Same <|
  all_mem v_hyphenref6_Breaks <|
  all_mem v_hyphenlaw5_Raw_Make <|
  all_mem v_hyphenref5_Sets <|
  all_mem v_hyphenref5_Parse <|
  all_mem v_hyphenref1_None <|
  all_mem v_hyphenlaw5_size <|
  all_mem v_hyphenlaw5_within <|
  all_mem v_mean_begin <|
  all_mem v_slices_Clone_Slint_int <|
  all_mem v_slices_Reverse_Slint_int <|
  all_mem v_mean_text_run <|
  all_mem v_trop_None <|
  all_mem v_mean_mirrored <|
  all_mem v_trop_Min <|
  all_mem v_trop_Add <|
  all_mem v_slices_Clone_Slapi_Vec_api_Vec <|
  all_mem v_hyphenlaw5_ranged <|
  all_mem v_hyphenlaw5_names <|
  all_mem v_hyphenlaw5_class <|
  all_mem v_hyphenref6_costs <|
  all_mem v_mean_text_none <|
  all_mem v_hyphenref5_Classes <|
  all_mem v_hyphenref5_Rexes <|
  all_mem v_hyphenlaw5_Raw_part <|
  all_mem v_hyphenref5_ranges <|
  all_mem v_hyphenref3_Has <|
  all_mem v_syn_Sets <|
  all_mem v_set_Has <|
  all_mem v_hyphenref5_reader_next <|
  all_mem v_hyphenref5_reader_is <|
  all_mem v_hyphenref5_reader_def <|
  all_mem v_hyphenref5_reader_has <|
  all_mem v_hyphenref5_cat <|
  all_mem v_hyphenref5_reader_rule <|
  all_mem v_hyphenref5_reader_fail <|
  all_mem v_mean_text_run_1 <|
  all_mem v_mean_bare <|
  all_mem v_mean_text_dearer <|
  all_mem v_mean_nothing <|
  all_mem v_mean_text_on <|
  all_mem v_mean_least <|
  all_mem v_mean_text_often <|
  all_mem v_slices_Equal_mean_costs_int <|
  all_mem v_slices_Reverse_Slapi_Rex_api_Rex <|
  all_mem v_hyphenref6_unit <|
  all_mem v_hyphenref6_empty <|
  all_mem v_hyphenref5_Find <|
  all_mem v_hyphenref6_less <|
  all_mem v_hyphenref6_behind <|
  all_mem v_cmp_Or_int <|
  all_mem v_cmp_Compare_int <|
  all_mem v_hyphenref3_Norm <|
  all_mem v_hyphenref3_Not <|
  all_mem v_hyphenref3_Or <|
  all_mem v_hyphenref3_And <|
  all_mem v_hyphenref3_Less <|
  all_mem v_syn_known_of <|
  all_mem v_slices_Clone_Slapi_Range_api_Range <|
  all_mem v_slices_Clone_SlSlapi_Range_Slapi_Range <|
  all_mem v_hyphenref5_reader_skip <|
  all_mem v_hyphenref5_one <|
  all_mem v_hyphenref5_Key <|
  all_mem v_hyphenref5_reader_take <|
  all_mem v_hyphenref5_reader_class <|
  all_mem v_hyphenref5_reader_num <|
  all_mem v_hyphenref5_reader_rex <|
  all_mem v_slices_ContainsFunc_Slapi_Rex_api_Rex <|
  all_mem v_mean_bare_1 <|
  all_mem v_slices_Clone_mean_costs_int <|
  all_mem v_mean_text_of <|
  all_mem v_mathbits_Len <|
  all_mem v_cmp_isNaN_int <|
  all_mem v_hyphenref3_sorted <|
  all_mem v_syn_child_api_Class <|
  all_mem v_set_Norm <|
  all_mem v_set_Not <|
  all_mem v_set_Or <|
  all_mem v_set_And <|
  all_mem v_set_Less <|
  all_mem v_hyphenref5_small <|
  all_mem v_hyphenref5_digit <|
  all_mem v_hyphenref5_hex <|
  all_mem v_hyphenref5_reader_both <|
  all_mem v_hyphenref5_reader_row <|
  all_mem v_slices_IndexFunc_Slapi_Rex_api_Rex <|
  all_mem v_mathbits_Len32 <|
  all_mem v_mathbits_Len64 <|
  all_mem v_slices_SortFunc_Slapi_Range_api_Range <|
  all_mem v_set_Norm_1 <|
  all_mem v_slices_Concat_Slapi_Range_api_Range <|
  all_mem v_hyphenref5_reader_part <|
  all_mem v_hyphenref5_reader_begins <|
  all_mem v_hyphenref5_reader_piece <|
  all_mem v_slices_nextPowerOfTwo <|
  all_mem v_slices_xorshift_Next <|
  all_mem v_slices_pdqsortCmpFunc_api_Range <|
  all_mem v_slices_Grow_Slapi_Range_api_Range <|
  all_mem v_hyphenref5_reader_ranged <|
  all_mem v_hyphenref5_reader_inner <|
  all_mem v_hyphenref5_reader_known <|
  all_mem v_hyphenref5_reader_behind <|
  all_mem v_slices_insertionSortCmpFunc_api_Range <|
  all_mem v_slices_heapSortCmpFunc_api_Range <|
  all_mem v_slices_breakPatternsCmpFunc_api_Range <|
  all_mem v_slices_choosePivotCmpFunc_api_Range <|
  all_mem v_slices_reverseRangeCmpFunc_api_Range <|
  all_mem v_slices_partialInsertionSortCmpFunc_api_Range <|
  all_mem v_slices_partitionEqualCmpFunc_api_Range <|
  all_mem v_slices_partitionCmpFunc_api_Range <|
  all_mem v_slices_siftDownCmpFunc_api_Range <|
  all_mem v_slices_medianAdjacentCmpFunc_api_Range <|
  all_mem v_slices_medianCmpFunc_api_Range <|
  all_mem v_slices_order2CmpFunc_api_Range <|
  fun _ h => nomatch h
theorem valid : Valid Tryz.prog T := valid_of (by kernel_rfl) tab_eq fns_ok
@[simp] theorem T_hyphenlaw6_MeanRules : T F_hyphenlaw6_MeanRules = some (.code fi_hyphenlaw6_MeanRules) := rfl
@[simp] theorem T_hyphenlaw6_MeanCats : T F_hyphenlaw6_MeanCats = some (.code fi_hyphenlaw6_MeanCats) := rfl
@[simp] theorem T_hyphenlaw6_MeanTimes : T F_hyphenlaw6_MeanTimes = some (.code fi_hyphenlaw6_MeanTimes) := rfl
@[simp] theorem T_hyphenlaw6_MeanLonger : T F_hyphenlaw6_MeanLonger = some (.code fi_hyphenlaw6_MeanLonger) := rfl
@[simp] theorem T_hyphenlaw6_MeanStars : T F_hyphenlaw6_MeanStars = some (.code fi_hyphenlaw6_MeanStars) := rfl
@[simp] theorem T_hyphenlaw6_MeanOwn : T F_hyphenlaw6_MeanOwn = some (.code fi_hyphenlaw6_MeanOwn) := rfl
@[simp] theorem T_hyphenlaw6_known : T F_hyphenlaw6_known = some (.code fi_hyphenlaw6_known) := rfl
@[simp] theorem T_hyphenlaw5_Few : T F_hyphenlaw5_Few = some (.code fi_hyphenlaw5_Few) := rfl
@[simp] theorem T_hyphenlaw5_File : T F_hyphenlaw5_File = some (.code fi_hyphenlaw5_File) := rfl
@[simp] theorem T_hyphenlaw6_Text : T F_hyphenlaw6_Text = some (.code fi_hyphenlaw6_Text) := rfl
@[simp] theorem T_mean_Breaks : T F_mean_Breaks = some (.code fi_mean_Breaks) := rfl
@[simp] theorem T_hyphenlaw6_within : T F_hyphenlaw6_within = some (.code fi_hyphenlaw6_within) := rfl
@[simp] theorem T_hyphenref1_Vecs : T F_hyphenref1_Vecs = some (.code fi_hyphenref1_Vecs) := rfl
@[simp] theorem T_hyphenlaw5_Defs : T F_hyphenlaw5_Defs = some (.code fi_hyphenlaw5_Defs) := rfl
@[simp] theorem T_hyphenlaw6_sides : T F_hyphenlaw6_sides = some (.code fi_hyphenlaw6_sides) := rfl
@[simp] theorem T_hyphenref1_Add : T F_hyphenref1_Add = some (.code fi_hyphenref1_Add) := rfl
@[simp] theorem T_mean_Cost : T F_mean_Cost = some (.code fi_mean_Cost) := rfl
@[simp] theorem T_hyphenref6_Between : T F_hyphenref6_Between = some (.code fi_hyphenref6_Between) := rfl
@[simp] theorem T_mean_Ends : T F_mean_Ends = some (.code fi_mean_Ends) := rfl
@[simp] theorem T_hyphenref1_Ints : T F_hyphenref1_Ints = some (.code fi_hyphenref1_Ints) := rfl
@[simp] theorem T_hyphenref5_Same : T F_hyphenref5_Same = some (.code fi_hyphenref5_Same) := rfl
@[simp] theorem T_hyphenref6_Breaks : T F_hyphenref6_Breaks = some (.code fi_hyphenref6_Breaks) := rfl
@[simp] theorem T_hyphenlaw5_Raw_Make : T F_hyphenlaw5_Raw_Make = some (.code fi_hyphenlaw5_Raw_Make) := rfl
@[simp] theorem T_hyphenref5_Sets : T F_hyphenref5_Sets = some (.code fi_hyphenref5_Sets) := rfl
@[simp] theorem T_hyphenref5_Parse : T F_hyphenref5_Parse = some (.code fi_hyphenref5_Parse) := rfl
@[simp] theorem T_hyphenref1_None : T F_hyphenref1_None = some (.code fi_hyphenref1_None) := rfl
@[simp] theorem T_hyphenlaw5_size : T F_hyphenlaw5_size = some (.code fi_hyphenlaw5_size) := rfl
@[simp] theorem T_hyphenlaw5_within : T F_hyphenlaw5_within = some (.code fi_hyphenlaw5_within) := rfl
@[simp] theorem T_mean_begin : T F_mean_begin = some (.code fi_mean_begin) := rfl
@[simp] theorem T_slices_Clone_Slint_int : T F_slices_Clone_Slint_int = some (.code fi_slices_Clone_Slint_int) := rfl
@[simp] theorem T_slices_Reverse_Slint_int : T F_slices_Reverse_Slint_int = some (.code fi_slices_Reverse_Slint_int) := rfl
@[simp] theorem T_mean_text_run : T F_mean_text_run = some (.code fi_mean_text_run) := rfl
@[simp] theorem T_trop_None : T F_trop_None = some (.code fi_trop_None) := rfl
@[simp] theorem T_mean_mirrored : T F_mean_mirrored = some (.code fi_mean_mirrored) := rfl
@[simp] theorem T_trop_Min : T F_trop_Min = some (.code fi_trop_Min) := rfl
@[simp] theorem T_trop_Add : T F_trop_Add = some (.code fi_trop_Add) := rfl
@[simp] theorem T_slices_Clone_Slapi_Vec_api_Vec : T F_slices_Clone_Slapi_Vec_api_Vec = some (.code fi_slices_Clone_Slapi_Vec_api_Vec) := rfl
@[simp] theorem T_hyphenlaw5_ranged : T F_hyphenlaw5_ranged = some (.code fi_hyphenlaw5_ranged) := rfl
@[simp] theorem T_hyphenlaw5_names : T F_hyphenlaw5_names = some (.code fi_hyphenlaw5_names) := rfl
@[simp] theorem T_hyphenlaw5_class : T F_hyphenlaw5_class = some (.code fi_hyphenlaw5_class) := rfl
@[simp] theorem T_hyphenref6_costs : T F_hyphenref6_costs = some (.code fi_hyphenref6_costs) := rfl
@[simp] theorem T_mean_text_none : T F_mean_text_none = some (.code fi_mean_text_none) := rfl
@[simp] theorem T_hyphenref5_Classes : T F_hyphenref5_Classes = some (.code fi_hyphenref5_Classes) := rfl
@[simp] theorem T_hyphenref5_Rexes : T F_hyphenref5_Rexes = some (.code fi_hyphenref5_Rexes) := rfl
@[simp] theorem T_hyphenlaw5_Raw_part : T F_hyphenlaw5_Raw_part = some (.code fi_hyphenlaw5_Raw_part) := rfl
@[simp] theorem T_hyphenref5_ranges : T F_hyphenref5_ranges = some (.code fi_hyphenref5_ranges) := rfl
@[simp] theorem T_hyphenref3_Has : T F_hyphenref3_Has = some (.code fi_hyphenref3_Has) := rfl
@[simp] theorem T_syn_Sets : T F_syn_Sets = some (.code fi_syn_Sets) := rfl
@[simp] theorem T_set_Has : T F_set_Has = some (.code fi_set_Has) := rfl
@[simp] theorem T_hyphenref5_reader_next : T F_hyphenref5_reader_next = some (.code fi_hyphenref5_reader_next) := rfl
@[simp] theorem T_hyphenref5_reader_is : T F_hyphenref5_reader_is = some (.code fi_hyphenref5_reader_is) := rfl
@[simp] theorem T_hyphenref5_reader_def : T F_hyphenref5_reader_def = some (.code fi_hyphenref5_reader_def) := rfl
@[simp] theorem T_hyphenref5_reader_has : T F_hyphenref5_reader_has = some (.code fi_hyphenref5_reader_has) := rfl
@[simp] theorem T_hyphenref5_cat : T F_hyphenref5_cat = some (.code fi_hyphenref5_cat) := rfl
@[simp] theorem T_hyphenref5_reader_rule : T F_hyphenref5_reader_rule = some (.code fi_hyphenref5_reader_rule) := rfl
@[simp] theorem T_hyphenref5_reader_fail : T F_hyphenref5_reader_fail = some (.code fi_hyphenref5_reader_fail) := rfl
@[simp] theorem T_mean_text_run_1 : T F_mean_text_run_1 = some (.code fi_mean_text_run_1) := rfl
@[simp] theorem T_mean_bare : T F_mean_bare = some (.code fi_mean_bare) := rfl
@[simp] theorem T_mean_text_dearer : T F_mean_text_dearer = some (.code fi_mean_text_dearer) := rfl
@[simp] theorem T_mean_nothing : T F_mean_nothing = some (.code fi_mean_nothing) := rfl
@[simp] theorem T_mean_text_on : T F_mean_text_on = some (.code fi_mean_text_on) := rfl
@[simp] theorem T_mean_least : T F_mean_least = some (.code fi_mean_least) := rfl
@[simp] theorem T_mean_text_often : T F_mean_text_often = some (.code fi_mean_text_often) := rfl
@[simp] theorem T_slices_Equal_mean_costs_int : T F_slices_Equal_mean_costs_int = some (.code fi_slices_Equal_mean_costs_int) := rfl
@[simp] theorem T_slices_Reverse_Slapi_Rex_api_Rex : T F_slices_Reverse_Slapi_Rex_api_Rex = some (.code fi_slices_Reverse_Slapi_Rex_api_Rex) := rfl
@[simp] theorem T_hyphenref6_unit : T F_hyphenref6_unit = some (.code fi_hyphenref6_unit) := rfl
@[simp] theorem T_hyphenref6_empty : T F_hyphenref6_empty = some (.code fi_hyphenref6_empty) := rfl
@[simp] theorem T_hyphenref5_Find : T F_hyphenref5_Find = some (.code fi_hyphenref5_Find) := rfl
@[simp] theorem T_hyphenref6_less : T F_hyphenref6_less = some (.code fi_hyphenref6_less) := rfl
@[simp] theorem T_hyphenref6_behind : T F_hyphenref6_behind = some (.code fi_hyphenref6_behind) := rfl
@[simp] theorem T_cmp_Or_int : T F_cmp_Or_int = some (.code fi_cmp_Or_int) := rfl
@[simp] theorem T_cmp_Compare_int : T F_cmp_Compare_int = some (.code fi_cmp_Compare_int) := rfl
@[simp] theorem T_hyphenref3_Norm : T F_hyphenref3_Norm = some (.code fi_hyphenref3_Norm) := rfl
@[simp] theorem T_hyphenref3_Not : T F_hyphenref3_Not = some (.code fi_hyphenref3_Not) := rfl
@[simp] theorem T_hyphenref3_Or : T F_hyphenref3_Or = some (.code fi_hyphenref3_Or) := rfl
@[simp] theorem T_hyphenref3_And : T F_hyphenref3_And = some (.code fi_hyphenref3_And) := rfl
@[simp] theorem T_hyphenref3_Less : T F_hyphenref3_Less = some (.code fi_hyphenref3_Less) := rfl
@[simp] theorem T_syn_known_of : T F_syn_known_of = some (.code fi_syn_known_of) := rfl
@[simp] theorem T_slices_Clone_Slapi_Range_api_Range : T F_slices_Clone_Slapi_Range_api_Range = some (.code fi_slices_Clone_Slapi_Range_api_Range) := rfl
@[simp] theorem T_slices_Clone_SlSlapi_Range_Slapi_Range : T F_slices_Clone_SlSlapi_Range_Slapi_Range = some (.code fi_slices_Clone_SlSlapi_Range_Slapi_Range) := rfl
@[simp] theorem T_hyphenref5_reader_skip : T F_hyphenref5_reader_skip = some (.code fi_hyphenref5_reader_skip) := rfl
@[simp] theorem T_hyphenref5_one : T F_hyphenref5_one = some (.code fi_hyphenref5_one) := rfl
@[simp] theorem T_hyphenref5_Key : T F_hyphenref5_Key = some (.code fi_hyphenref5_Key) := rfl
@[simp] theorem T_hyphenref5_reader_take : T F_hyphenref5_reader_take = some (.code fi_hyphenref5_reader_take) := rfl
@[simp] theorem T_hyphenref5_reader_class : T F_hyphenref5_reader_class = some (.code fi_hyphenref5_reader_class) := rfl
@[simp] theorem T_hyphenref5_reader_num : T F_hyphenref5_reader_num = some (.code fi_hyphenref5_reader_num) := rfl
@[simp] theorem T_hyphenref5_reader_rex : T F_hyphenref5_reader_rex = some (.code fi_hyphenref5_reader_rex) := rfl
@[simp] theorem T_slices_ContainsFunc_Slapi_Rex_api_Rex : T F_slices_ContainsFunc_Slapi_Rex_api_Rex = some (.code fi_slices_ContainsFunc_Slapi_Rex_api_Rex) := rfl
@[simp] theorem T_mean_bare_1 : T F_mean_bare_1 = some (.code fi_mean_bare_1) := rfl
@[simp] theorem T_slices_Clone_mean_costs_int : T F_slices_Clone_mean_costs_int = some (.code fi_slices_Clone_mean_costs_int) := rfl
@[simp] theorem T_mean_text_of : T F_mean_text_of = some (.code fi_mean_text_of) := rfl
@[simp] theorem T_mathbits_Len : T F_mathbits_Len = some (.code fi_mathbits_Len) := rfl
@[simp] theorem T_cmp_isNaN_int : T F_cmp_isNaN_int = some (.code fi_cmp_isNaN_int) := rfl
@[simp] theorem T_hyphenref3_sorted : T F_hyphenref3_sorted = some (.code fi_hyphenref3_sorted) := rfl
@[simp] theorem T_syn_child_api_Class : T F_syn_child_api_Class = some (.code fi_syn_child_api_Class) := rfl
@[simp] theorem T_set_Norm : T F_set_Norm = some (.code fi_set_Norm) := rfl
@[simp] theorem T_set_Not : T F_set_Not = some (.code fi_set_Not) := rfl
@[simp] theorem T_set_Or : T F_set_Or = some (.code fi_set_Or) := rfl
@[simp] theorem T_set_And : T F_set_And = some (.code fi_set_And) := rfl
@[simp] theorem T_set_Less : T F_set_Less = some (.code fi_set_Less) := rfl
@[simp] theorem T_hyphenref5_small : T F_hyphenref5_small = some (.code fi_hyphenref5_small) := rfl
@[simp] theorem T_hyphenref5_digit : T F_hyphenref5_digit = some (.code fi_hyphenref5_digit) := rfl
@[simp] theorem T_hyphenref5_hex : T F_hyphenref5_hex = some (.code fi_hyphenref5_hex) := rfl
@[simp] theorem T_hyphenref5_reader_both : T F_hyphenref5_reader_both = some (.code fi_hyphenref5_reader_both) := rfl
@[simp] theorem T_hyphenref5_reader_row : T F_hyphenref5_reader_row = some (.code fi_hyphenref5_reader_row) := rfl
@[simp] theorem T_slices_IndexFunc_Slapi_Rex_api_Rex : T F_slices_IndexFunc_Slapi_Rex_api_Rex = some (.code fi_slices_IndexFunc_Slapi_Rex_api_Rex) := rfl
@[simp] theorem T_mathbits_Len32 : T F_mathbits_Len32 = some (.code fi_mathbits_Len32) := rfl
@[simp] theorem T_mathbits_Len64 : T F_mathbits_Len64 = some (.code fi_mathbits_Len64) := rfl
@[simp] theorem T_slices_SortFunc_Slapi_Range_api_Range : T F_slices_SortFunc_Slapi_Range_api_Range = some (.code fi_slices_SortFunc_Slapi_Range_api_Range) := rfl
@[simp] theorem T_set_Norm_1 : T F_set_Norm_1 = some (.code fi_set_Norm_1) := rfl
@[simp] theorem T_slices_Concat_Slapi_Range_api_Range : T F_slices_Concat_Slapi_Range_api_Range = some (.code fi_slices_Concat_Slapi_Range_api_Range) := rfl
@[simp] theorem T_hyphenref5_reader_part : T F_hyphenref5_reader_part = some (.code fi_hyphenref5_reader_part) := rfl
@[simp] theorem T_hyphenref5_reader_begins : T F_hyphenref5_reader_begins = some (.code fi_hyphenref5_reader_begins) := rfl
@[simp] theorem T_hyphenref5_reader_piece : T F_hyphenref5_reader_piece = some (.code fi_hyphenref5_reader_piece) := rfl
@[simp] theorem T_slices_nextPowerOfTwo : T F_slices_nextPowerOfTwo = some (.code fi_slices_nextPowerOfTwo) := rfl
@[simp] theorem T_slices_xorshift_Next : T F_slices_xorshift_Next = some (.code fi_slices_xorshift_Next) := rfl
@[simp] theorem T_slices_pdqsortCmpFunc_api_Range : T F_slices_pdqsortCmpFunc_api_Range = some (.code fi_slices_pdqsortCmpFunc_api_Range) := rfl
@[simp] theorem T_slices_Grow_Slapi_Range_api_Range : T F_slices_Grow_Slapi_Range_api_Range = some (.code fi_slices_Grow_Slapi_Range_api_Range) := rfl
@[simp] theorem T_hyphenref5_reader_ranged : T F_hyphenref5_reader_ranged = some (.code fi_hyphenref5_reader_ranged) := rfl
@[simp] theorem T_hyphenref5_reader_inner : T F_hyphenref5_reader_inner = some (.code fi_hyphenref5_reader_inner) := rfl
@[simp] theorem T_hyphenref5_reader_known : T F_hyphenref5_reader_known = some (.code fi_hyphenref5_reader_known) := rfl
@[simp] theorem T_hyphenref5_reader_behind : T F_hyphenref5_reader_behind = some (.code fi_hyphenref5_reader_behind) := rfl
@[simp] theorem T_slices_insertionSortCmpFunc_api_Range : T F_slices_insertionSortCmpFunc_api_Range = some (.code fi_slices_insertionSortCmpFunc_api_Range) := rfl
@[simp] theorem T_slices_heapSortCmpFunc_api_Range : T F_slices_heapSortCmpFunc_api_Range = some (.code fi_slices_heapSortCmpFunc_api_Range) := rfl
@[simp] theorem T_slices_breakPatternsCmpFunc_api_Range : T F_slices_breakPatternsCmpFunc_api_Range = some (.code fi_slices_breakPatternsCmpFunc_api_Range) := rfl
@[simp] theorem T_slices_choosePivotCmpFunc_api_Range : T F_slices_choosePivotCmpFunc_api_Range = some (.code fi_slices_choosePivotCmpFunc_api_Range) := rfl
@[simp] theorem T_slices_reverseRangeCmpFunc_api_Range : T F_slices_reverseRangeCmpFunc_api_Range = some (.code fi_slices_reverseRangeCmpFunc_api_Range) := rfl
@[simp] theorem T_slices_partialInsertionSortCmpFunc_api_Range : T F_slices_partialInsertionSortCmpFunc_api_Range = some (.code fi_slices_partialInsertionSortCmpFunc_api_Range) := rfl
@[simp] theorem T_slices_partitionEqualCmpFunc_api_Range : T F_slices_partitionEqualCmpFunc_api_Range = some (.code fi_slices_partitionEqualCmpFunc_api_Range) := rfl
@[simp] theorem T_slices_partitionCmpFunc_api_Range : T F_slices_partitionCmpFunc_api_Range = some (.code fi_slices_partitionCmpFunc_api_Range) := rfl
@[simp] theorem T_slices_siftDownCmpFunc_api_Range : T F_slices_siftDownCmpFunc_api_Range = some (.code fi_slices_siftDownCmpFunc_api_Range) := rfl
@[simp] theorem T_slices_medianAdjacentCmpFunc_api_Range : T F_slices_medianAdjacentCmpFunc_api_Range = some (.code fi_slices_medianAdjacentCmpFunc_api_Range) := rfl
@[simp] theorem T_slices_medianCmpFunc_api_Range : T F_slices_medianCmpFunc_api_Range = some (.code fi_slices_medianCmpFunc_api_Range) := rfl
@[simp] theorem T_slices_order2CmpFunc_api_Range : T F_slices_order2CmpFunc_api_Range = some (.code fi_slices_order2CmpFunc_api_Range) := rfl
end Go.Proofs.YtcnbopgbmimkcaaGreat
