/- The table of the functions that are reached. Printed by a program. -/
import Derived.Test.YtecjccggbbbaaaaGreatCodeB
import Derived.Test.YtecjccggbbbaaaaGreatTab
import Derived.Test.YtecjccggbbbaaaaGreatExt
import Derived.Test.YtecjccggbbbaaaaGreatClone
set_option linter.unusedVariables false
set_option linter.unusedSimpArgs false
namespace AC
open Go.A Go.A.Lex
def tab : List (List (Option Fun)) := [
  [none, none, none, none, none, none, none, none, none, none, none, some a_locksteplaw20_PacksTwice, none, none, none, none],
  [some a_alias_Follows, none, none, none, none, none, none, none, none, some a_locksteplaw20_awake, some a_packs_Seeds, some a_packs_Lanes, some a_packs_Tree, none, none, some a_alias_Address],
  [some a_lockstepref02_Ints, some a_alias_right, some a_alias_touch, some a_alias_with, none, some a_alias_Follows_1, none, none, some a_check_Check, some a_word_Cut, none, none, none, none, none, none],
  [none, none, none, none, none, none, none, none, none, none, some a_locksteplaw20_awake_1, some a_packs_Neighbours, some a_packs_right, some a_packs_next, some a_packs_pair, some a_kind_Shape],
  [some a_check_Shapes, some a_slices_ContainsFunc_int, some a_packs_Tree_1, some a_packs_grower_node, none, none, none, none, some a_alias_address, some a_affine_Of, some a_slices_Equal_Term, some a_check_look, some a_word_May, none, none, none],
  [none, none, none, none, none, none, none, none, none, none, none, none, none, some a_packs_neighbours, some a_kind_Pure, some a_slices_IndexFunc_int],
  [some a_slices_Equal_int, some a_packs_grower_here, some a_packs_grower_constants, some a_packs_binary, some a_packs_grower_args, some a_packs_grower_loads, none, none, none, none, some a_code_May, some a_affine_finder_form, some a_check_checker_shape, some a_check_checker_typed, some a_check_checker_defined, some a_check_checker_shapes],
  [some a_check_checker_places, none, none, none, none, none, none, some a_packs_neighbours_1, some a_packs_grower_constants_1, some a_packs_grower_loads_1, none, none, some a_code_Size, some a_code_in, some a_slices_ContainsFunc_Block, some a_code_May_1],
  [some a_code_mayBlock, some a_affine_finder_made, some a_graph_Of, some a_dom_Tree, some a_dom_Over, some a_check_checker_typed_1, some a_slices_ContainsFunc_Phi, some a_check_checker_typed_2, some a_slices_ContainsFunc_Op, some a_check_checker_typed_3, some a_check_checker_of, some a_check_checker_put, some a_check_scalar, some a_kind_Gives, some a_check_checker_uses, some a_check_checker_defined_1],
  [some a_check_checker_shapes_1, some a_check_checker_places_1, none, none, none, none, none, none, none, none, none, none, none, none, some a_code_in_1, some a_slices_IndexFunc_Block],
  [some a_code_lists, some a_affine_Plus, some a_affine_Minus, some a_affine_Times, some a_graph_goes, some a_graph_Of_1, none, none, some a_slices_Values_int, some a_graph_Make, some a_graph_Order, some a_slices_Repeat_int, some a_dom_meet, some a_dom_in, some a_dom_Meet, some a_slices_IndexFunc_Phi],
  [some a_slices_IndexFunc_Op, some a_kind_May, some a_kind_stores, some a_kind_Takes, none, none, none, none, none, some a_affine_may, some a_affine_both, some a_affine_Plus_1, some a_affine_Minus_1, some a_affine_May, some a_affine_Times_1, none],
  [none, some a_slices_Values_int_int__1, some a_slices_ContainsFunc_sint, some a_graph_Make_1, some a_graph_rising, some a_graph_preds, some a_graph_May, some a_slices_Reverse_int, some a_bits_Mul, some a_dom_right, some a_dom_in_1, some a_dom_depth, some a_kind_takes, some a_kind_value, some a_kind_May_1, none],
  [none, none, none, some a_slices_ContainsFunc_Form, some a_affine_may_1, none, none, none, some a_slices_IndexFunc_sint, some a_slices_EqualFunc_sint, some a_bits_Mul32, some a_bits_Mul64, some a_kind_row, some a_slices_Repeat_2int, none, none],
  [none, none, none, none, none, none, none, none, none, none, none, none, some a_slices_IndexFunc_Form]]
def T (n : Nat) : Option Entry := if n = 166 then some (.ext extCompact) else if n = 68 then some (.ext (extCloneG 1)) else if n = 167 then some (.ext (extSorted F.slices_Values_int_int__1)) else tabOf tab n
end AC
