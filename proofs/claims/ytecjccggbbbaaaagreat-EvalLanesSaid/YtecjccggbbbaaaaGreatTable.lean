/- The table of the functions that are reached. Printed by a program. -/
import Derived.Test.YtecjccggbbbaaaaGreatCodeB
import Derived.Test.YtecjccggbbbaaaaGreatTab
import Derived.Test.YtecjccggbbbaaaaGreatExt
import Derived.Test.YtecjccggbbbaaaaGreatClone
set_option linter.unusedVariables false
set_option linter.unusedSimpArgs false
namespace AC
open Go.A Go.A.Lex
def tab : List (List (Option Fun)) := [
  [none, none, none, none, none, none, some a_locksteplaw13_EvalLanes, none, none, none, none, none, none, none, none, none],
  [none, none, some a_locksteplaw13_awake, some a_mem_New, some a_eval_Run, none, some a_lockstepref11_Check, none, none, none, none, none, none, none, none, none],
  [some a_lockstepref02_Ints, none, none, none, none, none, none, none, some a_check_Check, some a_word_Cut, some a_eval_machine_run, some a_lockstepref01_May, some a_lockstepref01_Cut, none, none, some a_lockstepref04_May],
  [some a_lockstepref11_shape, some a_lockstepref11_typed, some a_lockstepref11_Defs, some a_lockstepref03_Value, some a_lockstepref11_Find, some a_lockstepref11_Uses, some a_lockstepref06_Of, some a_lockstepref07_Tree, some a_lockstepref07_Meet, none, none, none, none, none, none, some a_kind_Shape],
  [none, some a_slices_ContainsFunc_int, none, none, none, none, none, none, none, none, none, some a_check_look, some a_word_May, some a_eval_machine_all, some a_eval_machine_phis, some a_eval_machine_step],
  [some a_eval_machine_next, some a_lockstepref04_list, some a_lockstepref04_num, some a_lockstepref04_Size, some a_lockstepref06_Reach, some a_lockstepref03_May, some a_lockstepref03_Gives, some a_lockstepref03_Takes, some a_lockstepref06_Has, some a_lockstepref06_Make, some a_lockstepref06_May, some a_lockstepref07_Right, some a_lockstepref07_Path, none, none, some a_slices_IndexFunc_int],
  [some a_slices_Equal_int, none, none, none, none, none, none, none, none, none, some a_code_May, none, some a_check_checker_shape, some a_check_checker_typed, some a_check_checker_defined, some a_check_checker_shapes],
  [some a_check_checker_places, some a_eval_machine_ways, some a_eval_machine_guarded, some a_lockstepref03_Shape, some a_lockstepref03_Args, some a_lockstepref03_Fits, some a_lockstepref06_Same, none, none, none, none, none, some a_code_Size, some a_code_in, some a_slices_ContainsFunc_Block, some a_code_May_1],
  [some a_code_mayBlock, none, some a_graph_Of, some a_dom_Tree, some a_dom_Over, some a_check_checker_typed_1, some a_slices_ContainsFunc_Phi, some a_check_checker_typed_2, some a_slices_ContainsFunc_Op, some a_check_checker_typed_3, some a_check_checker_of, some a_check_checker_put, some a_check_scalar, some a_kind_Gives, some a_check_checker_uses, some a_check_checker_defined_1],
  [some a_check_checker_shapes_1, some a_check_checker_places_1, some a_eval_machine_constant, some a_eval_machine_choose, some a_eval_machine_width, some a_eval_machine_load, some a_eval_machine_store, some a_eval_machine_pack, some a_eval_machine_get, some a_eval_machine_two, some a_eval_machine_guarded_1, some a_eval_machine_one, none, none, some a_code_in_1, some a_slices_IndexFunc_Block],
  [some a_code_lists, none, none, none, some a_graph_goes, some a_graph_Of_1, none, none, some a_slices_Values_int, some a_graph_Make, some a_graph_Order, some a_slices_Repeat_int, some a_dom_meet, some a_dom_in, some a_dom_Meet, some a_slices_IndexFunc_Phi],
  [some a_slices_IndexFunc_Op, some a_kind_May, some a_kind_stores, some a_kind_Takes, some a_eval_same, some a_mem_Mem_Read, some a_mem_Mem_Write, some a_word_Do, none, none, none, none, none, none, none, none],
  [none, some a_slices_Values_int_int__1, some a_slices_ContainsFunc_sint, some a_graph_Make_1, some a_graph_rising, some a_graph_preds, some a_graph_May, some a_slices_Reverse_int, some a_bits_Mul, some a_dom_right, some a_dom_in_1, some a_dom_depth, some a_kind_takes, some a_kind_value, some a_kind_May_1, some a_mem_may],
  [some a_mem_Mem_There, some a_word_Two, some a_word_ways, none, none, none, none, none, some a_slices_IndexFunc_sint, some a_slices_EqualFunc_sint, some a_bits_Mul32, some a_bits_Mul64, some a_kind_row, some a_slices_Repeat_2int, some a_word_ways_1, some a_word_ways_2],
  [some a_word_ways_3, some a_word_ways_4, some a_word_ways_5, some a_word_ways_6, some a_word_ways_7, some a_word_ways_8, some a_word_one, some a_word_ways_9, some a_word_ways_10, some a_word_ways_11, some a_word_ways_12, some a_word_Signed]]
def T (n : Nat) : Option Entry := if n = 39 then some (.ext (extBytesG 1)) else if n = 166 then some (.ext extCompact) else if n = 68 then some (.ext (extCloneG 1)) else if n = 167 then some (.ext (extSorted F.slices_Values_int_int__1)) else tabOf tab n
end AC
