/- That the table stands for the loaded program. Printed by a program. -/
import Derived.Test.YtecjccggbbbaaaaGreatTable
import Derived.Test.YtecjccggbbbaaaaGreatSortC
set_option linter.unusedVariables false
set_option linter.unusedSimpArgs false
namespace AC
open Go.A Go.A.Lex
theorem t_locksteplaw20_PacksTwice : FunOk Go.Proofs.Tryz.prog (drawsOf Go.Proofs.Tryz.prog) 11 a_locksteplaw20_PacksTwice := ⟨_, k_locksteplaw20_PacksTwice, Go.Proofs.Tryz.func11, by kernel_rfl, c_locksteplaw20_PacksTwice⟩
theorem t_alias_Follows : FunOk Go.Proofs.Tryz.prog (drawsOf Go.Proofs.Tryz.prog) 16 a_alias_Follows := ⟨_, k_alias_Follows, Go.Proofs.Tryz.func16, by kernel_rfl, c_alias_Follows⟩
theorem t_locksteplaw20_awake : FunOk Go.Proofs.Tryz.prog (drawsOf Go.Proofs.Tryz.prog) 25 a_locksteplaw20_awake := ⟨_, k_locksteplaw20_awake, Go.Proofs.Tryz.func25, by kernel_rfl, c_locksteplaw20_awake⟩
theorem t_packs_Seeds : FunOk Go.Proofs.Tryz.prog (drawsOf Go.Proofs.Tryz.prog) 26 a_packs_Seeds := ⟨_, k_packs_Seeds, Go.Proofs.Tryz.func26, by kernel_rfl, c_packs_Seeds⟩
theorem t_packs_Lanes : FunOk Go.Proofs.Tryz.prog (drawsOf Go.Proofs.Tryz.prog) 27 a_packs_Lanes := ⟨_, k_packs_Lanes, Go.Proofs.Tryz.func27, by kernel_rfl, c_packs_Lanes⟩
theorem t_packs_Tree : FunOk Go.Proofs.Tryz.prog (drawsOf Go.Proofs.Tryz.prog) 28 a_packs_Tree := ⟨_, k_packs_Tree, Go.Proofs.Tryz.func28, by kernel_rfl, c_packs_Tree⟩
theorem t_alias_Address : FunOk Go.Proofs.Tryz.prog (drawsOf Go.Proofs.Tryz.prog) 31 a_alias_Address := ⟨_, k_alias_Address, Go.Proofs.Tryz.func31, by kernel_rfl, c_alias_Address⟩
theorem t_lockstepref02_Ints : FunOk Go.Proofs.Tryz.prog (drawsOf Go.Proofs.Tryz.prog) 32 a_lockstepref02_Ints := ⟨_, k_lockstepref02_Ints, Go.Proofs.Tryz.func32, by kernel_rfl, c_lockstepref02_Ints⟩
theorem t_alias_right : FunOk Go.Proofs.Tryz.prog (drawsOf Go.Proofs.Tryz.prog) 33 a_alias_right := ⟨_, k_alias_right, Go.Proofs.Tryz.func33, by kernel_rfl, c_alias_right⟩
theorem t_alias_touch : FunOk Go.Proofs.Tryz.prog (drawsOf Go.Proofs.Tryz.prog) 34 a_alias_touch := ⟨_, k_alias_touch, Go.Proofs.Tryz.func34, by kernel_rfl, c_alias_touch⟩
theorem t_alias_with : FunOk Go.Proofs.Tryz.prog (drawsOf Go.Proofs.Tryz.prog) 35 a_alias_with := ⟨_, k_alias_with, Go.Proofs.Tryz.func35, by kernel_rfl, c_alias_with⟩
theorem t_alias_Follows_1 : FunOk Go.Proofs.Tryz.prog (drawsOf Go.Proofs.Tryz.prog) 37 a_alias_Follows_1 := ⟨_, k_alias_Follows_1, Go.Proofs.Tryz.func37, by kernel_rfl, c_alias_Follows_1⟩
theorem t_check_Check : FunOk Go.Proofs.Tryz.prog (drawsOf Go.Proofs.Tryz.prog) 40 a_check_Check := ⟨_, k_check_Check, Go.Proofs.Tryz.func40, by kernel_rfl, c_check_Check⟩
theorem t_word_Cut : FunOk Go.Proofs.Tryz.prog (drawsOf Go.Proofs.Tryz.prog) 41 a_word_Cut := ⟨_, k_word_Cut, Go.Proofs.Tryz.func41, by kernel_rfl, c_word_Cut⟩
theorem t_locksteplaw20_awake_1 : FunOk Go.Proofs.Tryz.prog (drawsOf Go.Proofs.Tryz.prog) 58 a_locksteplaw20_awake_1 := ⟨_, k_locksteplaw20_awake_1, Go.Proofs.Tryz.func58, by kernel_rfl, c_locksteplaw20_awake_1⟩
theorem t_packs_Neighbours : FunOk Go.Proofs.Tryz.prog (drawsOf Go.Proofs.Tryz.prog) 59 a_packs_Neighbours := ⟨_, k_packs_Neighbours, Go.Proofs.Tryz.func59, by kernel_rfl, c_packs_Neighbours⟩
theorem t_packs_right : FunOk Go.Proofs.Tryz.prog (drawsOf Go.Proofs.Tryz.prog) 60 a_packs_right := ⟨_, k_packs_right, Go.Proofs.Tryz.func60, by kernel_rfl, c_packs_right⟩
theorem t_packs_next : FunOk Go.Proofs.Tryz.prog (drawsOf Go.Proofs.Tryz.prog) 61 a_packs_next := ⟨_, k_packs_next, Go.Proofs.Tryz.func61, by kernel_rfl, c_packs_next⟩
theorem t_packs_pair : FunOk Go.Proofs.Tryz.prog (drawsOf Go.Proofs.Tryz.prog) 62 a_packs_pair := ⟨_, k_packs_pair, Go.Proofs.Tryz.func62, by kernel_rfl, c_packs_pair⟩
theorem t_kind_Shape : FunOk Go.Proofs.Tryz.prog (drawsOf Go.Proofs.Tryz.prog) 63 a_kind_Shape := ⟨_, k_kind_Shape, Go.Proofs.Tryz.func63, by kernel_rfl, c_kind_Shape⟩
theorem t_check_Shapes : FunOk Go.Proofs.Tryz.prog (drawsOf Go.Proofs.Tryz.prog) 64 a_check_Shapes := ⟨_, k_check_Shapes, Go.Proofs.Tryz.func64, by kernel_rfl, c_check_Shapes⟩
theorem t_slices_ContainsFunc_int : FunOk Go.Proofs.Tryz.prog (drawsOf Go.Proofs.Tryz.prog) 65 a_slices_ContainsFunc_int := ⟨_, k_slices_ContainsFunc_int, Go.Proofs.Tryz.func65, by kernel_rfl, c_slices_ContainsFunc_int⟩
theorem t_packs_Tree_1 : FunOk Go.Proofs.Tryz.prog (drawsOf Go.Proofs.Tryz.prog) 66 a_packs_Tree_1 := ⟨_, k_packs_Tree_1, Go.Proofs.Tryz.func66, by kernel_rfl, c_packs_Tree_1⟩
theorem t_packs_grower_node : FunOk Go.Proofs.Tryz.prog (drawsOf Go.Proofs.Tryz.prog) 67 a_packs_grower_node := ⟨_, k_packs_grower_node, Go.Proofs.Tryz.func67, by kernel_rfl, c_packs_grower_node⟩
theorem t_alias_address : FunOk Go.Proofs.Tryz.prog (drawsOf Go.Proofs.Tryz.prog) 72 a_alias_address := ⟨_, k_alias_address, Go.Proofs.Tryz.func72, by kernel_rfl, c_alias_address⟩
theorem t_affine_Of : FunOk Go.Proofs.Tryz.prog (drawsOf Go.Proofs.Tryz.prog) 73 a_affine_Of := ⟨_, k_affine_Of, Go.Proofs.Tryz.func73, by kernel_rfl, c_affine_Of⟩
theorem t_slices_Equal_Term : FunOk Go.Proofs.Tryz.prog (drawsOf Go.Proofs.Tryz.prog) 74 a_slices_Equal_Term := ⟨_, k_slices_Equal_Term, Go.Proofs.Tryz.func74, by kernel_rfl, c_slices_Equal_Term⟩
theorem t_check_look : FunOk Go.Proofs.Tryz.prog (drawsOf Go.Proofs.Tryz.prog) 75 a_check_look := ⟨_, k_check_look, Go.Proofs.Tryz.func75, by kernel_rfl, c_check_look⟩
theorem t_word_May : FunOk Go.Proofs.Tryz.prog (drawsOf Go.Proofs.Tryz.prog) 76 a_word_May := ⟨_, k_word_May, Go.Proofs.Tryz.func76, by kernel_rfl, c_word_May⟩
theorem t_packs_neighbours : FunOk Go.Proofs.Tryz.prog (drawsOf Go.Proofs.Tryz.prog) 93 a_packs_neighbours := ⟨_, k_packs_neighbours, Go.Proofs.Tryz.func93, by kernel_rfl, c_packs_neighbours⟩
theorem t_kind_Pure : FunOk Go.Proofs.Tryz.prog (drawsOf Go.Proofs.Tryz.prog) 94 a_kind_Pure := ⟨_, k_kind_Pure, Go.Proofs.Tryz.func94, by kernel_rfl, c_kind_Pure⟩
theorem t_slices_IndexFunc_int : FunOk Go.Proofs.Tryz.prog (drawsOf Go.Proofs.Tryz.prog) 95 a_slices_IndexFunc_int := ⟨_, k_slices_IndexFunc_int, Go.Proofs.Tryz.func95, by kernel_rfl, c_slices_IndexFunc_int⟩
theorem t_slices_Equal_int : FunOk Go.Proofs.Tryz.prog (drawsOf Go.Proofs.Tryz.prog) 96 a_slices_Equal_int := ⟨_, k_slices_Equal_int, Go.Proofs.Tryz.func96, by kernel_rfl, c_slices_Equal_int⟩
theorem t_packs_grower_here : FunOk Go.Proofs.Tryz.prog (drawsOf Go.Proofs.Tryz.prog) 97 a_packs_grower_here := ⟨_, k_packs_grower_here, Go.Proofs.Tryz.func97, by kernel_rfl, c_packs_grower_here⟩
theorem t_packs_grower_constants : FunOk Go.Proofs.Tryz.prog (drawsOf Go.Proofs.Tryz.prog) 98 a_packs_grower_constants := ⟨_, k_packs_grower_constants, Go.Proofs.Tryz.func98, by kernel_rfl, c_packs_grower_constants⟩
theorem t_packs_binary : FunOk Go.Proofs.Tryz.prog (drawsOf Go.Proofs.Tryz.prog) 99 a_packs_binary := ⟨_, k_packs_binary, Go.Proofs.Tryz.func99, by kernel_rfl, c_packs_binary⟩
theorem t_packs_grower_args : FunOk Go.Proofs.Tryz.prog (drawsOf Go.Proofs.Tryz.prog) 100 a_packs_grower_args := ⟨_, k_packs_grower_args, Go.Proofs.Tryz.func100, by kernel_rfl, c_packs_grower_args⟩
theorem t_packs_grower_loads : FunOk Go.Proofs.Tryz.prog (drawsOf Go.Proofs.Tryz.prog) 101 a_packs_grower_loads := ⟨_, k_packs_grower_loads, Go.Proofs.Tryz.func101, by kernel_rfl, c_packs_grower_loads⟩
theorem t_code_May : FunOk Go.Proofs.Tryz.prog (drawsOf Go.Proofs.Tryz.prog) 106 a_code_May := ⟨_, k_code_May, Go.Proofs.Tryz.func106, by kernel_rfl, c_code_May⟩
theorem t_affine_finder_form : FunOk Go.Proofs.Tryz.prog (drawsOf Go.Proofs.Tryz.prog) 107 a_affine_finder_form := ⟨_, k_affine_finder_form, Go.Proofs.Tryz.func107, by kernel_rfl, c_affine_finder_form⟩
theorem t_check_checker_shape : FunOk Go.Proofs.Tryz.prog (drawsOf Go.Proofs.Tryz.prog) 108 a_check_checker_shape := ⟨_, k_check_checker_shape, Go.Proofs.Tryz.func108, by kernel_rfl, c_check_checker_shape⟩
theorem t_check_checker_typed : FunOk Go.Proofs.Tryz.prog (drawsOf Go.Proofs.Tryz.prog) 109 a_check_checker_typed := ⟨_, k_check_checker_typed, Go.Proofs.Tryz.func109, by kernel_rfl, c_check_checker_typed⟩
theorem t_check_checker_defined : FunOk Go.Proofs.Tryz.prog (drawsOf Go.Proofs.Tryz.prog) 110 a_check_checker_defined := ⟨_, k_check_checker_defined, Go.Proofs.Tryz.func110, by kernel_rfl, c_check_checker_defined⟩
theorem t_check_checker_shapes : FunOk Go.Proofs.Tryz.prog (drawsOf Go.Proofs.Tryz.prog) 111 a_check_checker_shapes := ⟨_, k_check_checker_shapes, Go.Proofs.Tryz.func111, by kernel_rfl, c_check_checker_shapes⟩
theorem t_check_checker_places : FunOk Go.Proofs.Tryz.prog (drawsOf Go.Proofs.Tryz.prog) 112 a_check_checker_places := ⟨_, k_check_checker_places, Go.Proofs.Tryz.func112, by kernel_rfl, c_check_checker_places⟩
theorem t_packs_neighbours_1 : FunOk Go.Proofs.Tryz.prog (drawsOf Go.Proofs.Tryz.prog) 119 a_packs_neighbours_1 := ⟨_, k_packs_neighbours_1, Go.Proofs.Tryz.func119, by kernel_rfl, c_packs_neighbours_1⟩
theorem t_packs_grower_constants_1 : FunOk Go.Proofs.Tryz.prog (drawsOf Go.Proofs.Tryz.prog) 120 a_packs_grower_constants_1 := ⟨_, k_packs_grower_constants_1, Go.Proofs.Tryz.func120, by kernel_rfl, c_packs_grower_constants_1⟩
theorem t_packs_grower_loads_1 : FunOk Go.Proofs.Tryz.prog (drawsOf Go.Proofs.Tryz.prog) 121 a_packs_grower_loads_1 := ⟨_, k_packs_grower_loads_1, Go.Proofs.Tryz.func121, by kernel_rfl, c_packs_grower_loads_1⟩
theorem t_code_Size : FunOk Go.Proofs.Tryz.prog (drawsOf Go.Proofs.Tryz.prog) 124 a_code_Size := ⟨_, k_code_Size, Go.Proofs.Tryz.func124, by kernel_rfl, c_code_Size⟩
theorem t_code_in : FunOk Go.Proofs.Tryz.prog (drawsOf Go.Proofs.Tryz.prog) 125 a_code_in := ⟨_, k_code_in, Go.Proofs.Tryz.func125, by kernel_rfl, c_code_in⟩
theorem t_slices_ContainsFunc_Block : FunOk Go.Proofs.Tryz.prog (drawsOf Go.Proofs.Tryz.prog) 126 a_slices_ContainsFunc_Block := ⟨_, k_slices_ContainsFunc_Block, Go.Proofs.Tryz.func126, by kernel_rfl, c_slices_ContainsFunc_Block⟩
theorem t_code_May_1 : FunOk Go.Proofs.Tryz.prog (drawsOf Go.Proofs.Tryz.prog) 127 a_code_May_1 := ⟨_, k_code_May_1, Go.Proofs.Tryz.func127, by kernel_rfl, c_code_May_1⟩
theorem t_code_mayBlock : FunOk Go.Proofs.Tryz.prog (drawsOf Go.Proofs.Tryz.prog) 128 a_code_mayBlock := ⟨_, k_code_mayBlock, Go.Proofs.Tryz.func128, by kernel_rfl, c_code_mayBlock⟩
theorem t_affine_finder_made : FunOk Go.Proofs.Tryz.prog (drawsOf Go.Proofs.Tryz.prog) 129 a_affine_finder_made := ⟨_, k_affine_finder_made, Go.Proofs.Tryz.func129, by kernel_rfl, c_affine_finder_made⟩
theorem t_graph_Of : FunOk Go.Proofs.Tryz.prog (drawsOf Go.Proofs.Tryz.prog) 130 a_graph_Of := ⟨_, k_graph_Of, Go.Proofs.Tryz.func130, by kernel_rfl, c_graph_Of⟩
theorem t_dom_Tree : FunOk Go.Proofs.Tryz.prog (drawsOf Go.Proofs.Tryz.prog) 131 a_dom_Tree := ⟨_, k_dom_Tree, Go.Proofs.Tryz.func131, by kernel_rfl, c_dom_Tree⟩
theorem t_dom_Over : FunOk Go.Proofs.Tryz.prog (drawsOf Go.Proofs.Tryz.prog) 132 a_dom_Over := ⟨_, k_dom_Over, Go.Proofs.Tryz.func132, by kernel_rfl, c_dom_Over⟩
theorem t_check_checker_typed_1 : FunOk Go.Proofs.Tryz.prog (drawsOf Go.Proofs.Tryz.prog) 133 a_check_checker_typed_1 := ⟨_, k_check_checker_typed_1, Go.Proofs.Tryz.func133, by kernel_rfl, c_check_checker_typed_1⟩
theorem t_slices_ContainsFunc_Phi : FunOk Go.Proofs.Tryz.prog (drawsOf Go.Proofs.Tryz.prog) 134 a_slices_ContainsFunc_Phi := ⟨_, k_slices_ContainsFunc_Phi, Go.Proofs.Tryz.func134, by kernel_rfl, c_slices_ContainsFunc_Phi⟩
theorem t_check_checker_typed_2 : FunOk Go.Proofs.Tryz.prog (drawsOf Go.Proofs.Tryz.prog) 135 a_check_checker_typed_2 := ⟨_, k_check_checker_typed_2, Go.Proofs.Tryz.func135, by kernel_rfl, c_check_checker_typed_2⟩
theorem t_slices_ContainsFunc_Op : FunOk Go.Proofs.Tryz.prog (drawsOf Go.Proofs.Tryz.prog) 136 a_slices_ContainsFunc_Op := ⟨_, k_slices_ContainsFunc_Op, Go.Proofs.Tryz.func136, by kernel_rfl, c_slices_ContainsFunc_Op⟩
theorem t_check_checker_typed_3 : FunOk Go.Proofs.Tryz.prog (drawsOf Go.Proofs.Tryz.prog) 137 a_check_checker_typed_3 := ⟨_, k_check_checker_typed_3, Go.Proofs.Tryz.func137, by kernel_rfl, c_check_checker_typed_3⟩
theorem t_check_checker_of : FunOk Go.Proofs.Tryz.prog (drawsOf Go.Proofs.Tryz.prog) 138 a_check_checker_of := ⟨_, k_check_checker_of, Go.Proofs.Tryz.func138, by kernel_rfl, c_check_checker_of⟩
theorem t_check_checker_put : FunOk Go.Proofs.Tryz.prog (drawsOf Go.Proofs.Tryz.prog) 139 a_check_checker_put := ⟨_, k_check_checker_put, Go.Proofs.Tryz.func139, by kernel_rfl, c_check_checker_put⟩
theorem t_check_scalar : FunOk Go.Proofs.Tryz.prog (drawsOf Go.Proofs.Tryz.prog) 140 a_check_scalar := ⟨_, k_check_scalar, Go.Proofs.Tryz.func140, by kernel_rfl, c_check_scalar⟩
theorem t_kind_Gives : FunOk Go.Proofs.Tryz.prog (drawsOf Go.Proofs.Tryz.prog) 141 a_kind_Gives := ⟨_, k_kind_Gives, Go.Proofs.Tryz.func141, by kernel_rfl, c_kind_Gives⟩
theorem t_check_checker_uses : FunOk Go.Proofs.Tryz.prog (drawsOf Go.Proofs.Tryz.prog) 142 a_check_checker_uses := ⟨_, k_check_checker_uses, Go.Proofs.Tryz.func142, by kernel_rfl, c_check_checker_uses⟩
theorem t_check_checker_defined_1 : FunOk Go.Proofs.Tryz.prog (drawsOf Go.Proofs.Tryz.prog) 143 a_check_checker_defined_1 := ⟨_, k_check_checker_defined_1, Go.Proofs.Tryz.func143, by kernel_rfl, c_check_checker_defined_1⟩
theorem t_check_checker_shapes_1 : FunOk Go.Proofs.Tryz.prog (drawsOf Go.Proofs.Tryz.prog) 144 a_check_checker_shapes_1 := ⟨_, k_check_checker_shapes_1, Go.Proofs.Tryz.func144, by kernel_rfl, c_check_checker_shapes_1⟩
theorem t_check_checker_places_1 : FunOk Go.Proofs.Tryz.prog (drawsOf Go.Proofs.Tryz.prog) 145 a_check_checker_places_1 := ⟨_, k_check_checker_places_1, Go.Proofs.Tryz.func145, by kernel_rfl, c_check_checker_places_1⟩
theorem t_code_in_1 : FunOk Go.Proofs.Tryz.prog (drawsOf Go.Proofs.Tryz.prog) 158 a_code_in_1 := ⟨_, k_code_in_1, Go.Proofs.Tryz.func158, by kernel_rfl, c_code_in_1⟩
theorem t_slices_IndexFunc_Block : FunOk Go.Proofs.Tryz.prog (drawsOf Go.Proofs.Tryz.prog) 159 a_slices_IndexFunc_Block := ⟨_, k_slices_IndexFunc_Block, Go.Proofs.Tryz.func159, by kernel_rfl, c_slices_IndexFunc_Block⟩
theorem t_code_lists : FunOk Go.Proofs.Tryz.prog (drawsOf Go.Proofs.Tryz.prog) 160 a_code_lists := ⟨_, k_code_lists, Go.Proofs.Tryz.func160, by kernel_rfl, c_code_lists⟩
theorem t_affine_Plus : FunOk Go.Proofs.Tryz.prog (drawsOf Go.Proofs.Tryz.prog) 161 a_affine_Plus := ⟨_, k_affine_Plus, Go.Proofs.Tryz.func161, by kernel_rfl, c_affine_Plus⟩
theorem t_affine_Minus : FunOk Go.Proofs.Tryz.prog (drawsOf Go.Proofs.Tryz.prog) 162 a_affine_Minus := ⟨_, k_affine_Minus, Go.Proofs.Tryz.func162, by kernel_rfl, c_affine_Minus⟩
theorem t_affine_Times : FunOk Go.Proofs.Tryz.prog (drawsOf Go.Proofs.Tryz.prog) 163 a_affine_Times := ⟨_, k_affine_Times, Go.Proofs.Tryz.func163, by kernel_rfl, c_affine_Times⟩
theorem t_graph_goes : FunOk Go.Proofs.Tryz.prog (drawsOf Go.Proofs.Tryz.prog) 164 a_graph_goes := ⟨_, k_graph_goes, Go.Proofs.Tryz.func164, by kernel_rfl, c_graph_goes⟩
theorem t_graph_Of_1 : FunOk Go.Proofs.Tryz.prog (drawsOf Go.Proofs.Tryz.prog) 165 a_graph_Of_1 := ⟨_, k_graph_Of_1, Go.Proofs.Tryz.func165, by kernel_rfl, c_graph_Of_1⟩
theorem t_slices_Values_int : FunOk Go.Proofs.Tryz.prog (drawsOf Go.Proofs.Tryz.prog) 168 a_slices_Values_int := ⟨_, k_slices_Values_int, Go.Proofs.Tryz.func168, by kernel_rfl, c_slices_Values_int⟩
theorem t_graph_Make : FunOk Go.Proofs.Tryz.prog (drawsOf Go.Proofs.Tryz.prog) 169 a_graph_Make := ⟨_, k_graph_Make, Go.Proofs.Tryz.func169, by kernel_rfl, c_graph_Make⟩
theorem t_graph_Order : FunOk Go.Proofs.Tryz.prog (drawsOf Go.Proofs.Tryz.prog) 170 a_graph_Order := ⟨_, k_graph_Order, Go.Proofs.Tryz.func170, by kernel_rfl, c_graph_Order⟩
theorem t_slices_Repeat_int : FunOk Go.Proofs.Tryz.prog (drawsOf Go.Proofs.Tryz.prog) 171 a_slices_Repeat_int := ⟨_, k_slices_Repeat_int, Go.Proofs.Tryz.func171, by kernel_rfl, c_slices_Repeat_int⟩
theorem t_dom_meet : FunOk Go.Proofs.Tryz.prog (drawsOf Go.Proofs.Tryz.prog) 172 a_dom_meet := ⟨_, k_dom_meet, Go.Proofs.Tryz.func172, by kernel_rfl, c_dom_meet⟩
theorem t_dom_in : FunOk Go.Proofs.Tryz.prog (drawsOf Go.Proofs.Tryz.prog) 173 a_dom_in := ⟨_, k_dom_in, Go.Proofs.Tryz.func173, by kernel_rfl, c_dom_in⟩
theorem t_dom_Meet : FunOk Go.Proofs.Tryz.prog (drawsOf Go.Proofs.Tryz.prog) 174 a_dom_Meet := ⟨_, k_dom_Meet, Go.Proofs.Tryz.func174, by kernel_rfl, c_dom_Meet⟩
theorem t_slices_IndexFunc_Phi : FunOk Go.Proofs.Tryz.prog (drawsOf Go.Proofs.Tryz.prog) 175 a_slices_IndexFunc_Phi := ⟨_, k_slices_IndexFunc_Phi, Go.Proofs.Tryz.func175, by kernel_rfl, c_slices_IndexFunc_Phi⟩
theorem t_slices_IndexFunc_Op : FunOk Go.Proofs.Tryz.prog (drawsOf Go.Proofs.Tryz.prog) 176 a_slices_IndexFunc_Op := ⟨_, k_slices_IndexFunc_Op, Go.Proofs.Tryz.func176, by kernel_rfl, c_slices_IndexFunc_Op⟩
theorem t_kind_May : FunOk Go.Proofs.Tryz.prog (drawsOf Go.Proofs.Tryz.prog) 177 a_kind_May := ⟨_, k_kind_May, Go.Proofs.Tryz.func177, by kernel_rfl, c_kind_May⟩
theorem t_kind_stores : FunOk Go.Proofs.Tryz.prog (drawsOf Go.Proofs.Tryz.prog) 178 a_kind_stores := ⟨_, k_kind_stores, Go.Proofs.Tryz.func178, by kernel_rfl, c_kind_stores⟩
theorem t_kind_Takes : FunOk Go.Proofs.Tryz.prog (drawsOf Go.Proofs.Tryz.prog) 179 a_kind_Takes := ⟨_, k_kind_Takes, Go.Proofs.Tryz.func179, by kernel_rfl, c_kind_Takes⟩
theorem t_affine_may : FunOk Go.Proofs.Tryz.prog (drawsOf Go.Proofs.Tryz.prog) 185 a_affine_may := ⟨_, k_affine_may, Go.Proofs.Tryz.func185, by kernel_rfl, c_affine_may⟩
theorem t_affine_both : FunOk Go.Proofs.Tryz.prog (drawsOf Go.Proofs.Tryz.prog) 186 a_affine_both := ⟨_, k_affine_both, Go.Proofs.Tryz.func186, by kernel_rfl, c_affine_both⟩
theorem t_affine_Plus_1 : FunOk Go.Proofs.Tryz.prog (drawsOf Go.Proofs.Tryz.prog) 187 a_affine_Plus_1 := ⟨_, k_affine_Plus_1, Go.Proofs.Tryz.func187, by kernel_rfl, c_affine_Plus_1⟩
theorem t_affine_Minus_1 : FunOk Go.Proofs.Tryz.prog (drawsOf Go.Proofs.Tryz.prog) 188 a_affine_Minus_1 := ⟨_, k_affine_Minus_1, Go.Proofs.Tryz.func188, by kernel_rfl, c_affine_Minus_1⟩
theorem t_affine_May : FunOk Go.Proofs.Tryz.prog (drawsOf Go.Proofs.Tryz.prog) 189 a_affine_May := ⟨_, k_affine_May, Go.Proofs.Tryz.func189, by kernel_rfl, c_affine_May⟩
theorem t_affine_Times_1 : FunOk Go.Proofs.Tryz.prog (drawsOf Go.Proofs.Tryz.prog) 190 a_affine_Times_1 := ⟨_, k_affine_Times_1, Go.Proofs.Tryz.func190, by kernel_rfl, c_affine_Times_1⟩
theorem t_slices_Values_int_int__1 : FunOk Go.Proofs.Tryz.prog (drawsOf Go.Proofs.Tryz.prog) 193 a_slices_Values_int_int__1 := ⟨_, k_slices_Values_int_int__1, Go.Proofs.Tryz.func193, by kernel_rfl, c_slices_Values_int_int__1⟩
theorem t_slices_ContainsFunc_sint : FunOk Go.Proofs.Tryz.prog (drawsOf Go.Proofs.Tryz.prog) 194 a_slices_ContainsFunc_sint := ⟨_, k_slices_ContainsFunc_sint, Go.Proofs.Tryz.func194, by kernel_rfl, c_slices_ContainsFunc_sint⟩
theorem t_graph_Make_1 : FunOk Go.Proofs.Tryz.prog (drawsOf Go.Proofs.Tryz.prog) 195 a_graph_Make_1 := ⟨_, k_graph_Make_1, Go.Proofs.Tryz.func195, by kernel_rfl, c_graph_Make_1⟩
theorem t_graph_rising : FunOk Go.Proofs.Tryz.prog (drawsOf Go.Proofs.Tryz.prog) 196 a_graph_rising := ⟨_, k_graph_rising, Go.Proofs.Tryz.func196, by kernel_rfl, c_graph_rising⟩
theorem t_graph_preds : FunOk Go.Proofs.Tryz.prog (drawsOf Go.Proofs.Tryz.prog) 197 a_graph_preds := ⟨_, k_graph_preds, Go.Proofs.Tryz.func197, by kernel_rfl, c_graph_preds⟩
theorem t_graph_May : FunOk Go.Proofs.Tryz.prog (drawsOf Go.Proofs.Tryz.prog) 198 a_graph_May := ⟨_, k_graph_May, Go.Proofs.Tryz.func198, by kernel_rfl, c_graph_May⟩
theorem t_slices_Reverse_int : FunOk Go.Proofs.Tryz.prog (drawsOf Go.Proofs.Tryz.prog) 199 a_slices_Reverse_int := ⟨_, k_slices_Reverse_int, Go.Proofs.Tryz.func199, by kernel_rfl, c_slices_Reverse_int⟩
theorem t_bits_Mul : FunOk Go.Proofs.Tryz.prog (drawsOf Go.Proofs.Tryz.prog) 200 a_bits_Mul := ⟨_, k_bits_Mul, Go.Proofs.Tryz.func200, by kernel_rfl, c_bits_Mul⟩
theorem t_dom_right : FunOk Go.Proofs.Tryz.prog (drawsOf Go.Proofs.Tryz.prog) 201 a_dom_right := ⟨_, k_dom_right, Go.Proofs.Tryz.func201, by kernel_rfl, c_dom_right⟩
theorem t_dom_in_1 : FunOk Go.Proofs.Tryz.prog (drawsOf Go.Proofs.Tryz.prog) 202 a_dom_in_1 := ⟨_, k_dom_in_1, Go.Proofs.Tryz.func202, by kernel_rfl, c_dom_in_1⟩
theorem t_dom_depth : FunOk Go.Proofs.Tryz.prog (drawsOf Go.Proofs.Tryz.prog) 203 a_dom_depth := ⟨_, k_dom_depth, Go.Proofs.Tryz.func203, by kernel_rfl, c_dom_depth⟩
theorem t_kind_takes : FunOk Go.Proofs.Tryz.prog (drawsOf Go.Proofs.Tryz.prog) 204 a_kind_takes := ⟨_, k_kind_takes, Go.Proofs.Tryz.func204, by kernel_rfl, c_kind_takes⟩
theorem t_kind_value : FunOk Go.Proofs.Tryz.prog (drawsOf Go.Proofs.Tryz.prog) 205 a_kind_value := ⟨_, k_kind_value, Go.Proofs.Tryz.func205, by kernel_rfl, c_kind_value⟩
theorem t_kind_May_1 : FunOk Go.Proofs.Tryz.prog (drawsOf Go.Proofs.Tryz.prog) 206 a_kind_May_1 := ⟨_, k_kind_May_1, Go.Proofs.Tryz.func206, by kernel_rfl, c_kind_May_1⟩
theorem t_slices_ContainsFunc_Form : FunOk Go.Proofs.Tryz.prog (drawsOf Go.Proofs.Tryz.prog) 211 a_slices_ContainsFunc_Form := ⟨_, k_slices_ContainsFunc_Form, Go.Proofs.Tryz.func211, by kernel_rfl, c_slices_ContainsFunc_Form⟩
theorem t_affine_may_1 : FunOk Go.Proofs.Tryz.prog (drawsOf Go.Proofs.Tryz.prog) 212 a_affine_may_1 := ⟨_, k_affine_may_1, Go.Proofs.Tryz.func212, by kernel_rfl, c_affine_may_1⟩
theorem t_slices_IndexFunc_sint : FunOk Go.Proofs.Tryz.prog (drawsOf Go.Proofs.Tryz.prog) 216 a_slices_IndexFunc_sint := ⟨_, k_slices_IndexFunc_sint, Go.Proofs.Tryz.func216, by kernel_rfl, c_slices_IndexFunc_sint⟩
theorem t_slices_EqualFunc_sint : FunOk Go.Proofs.Tryz.prog (drawsOf Go.Proofs.Tryz.prog) 217 a_slices_EqualFunc_sint := ⟨_, k_slices_EqualFunc_sint, Go.Proofs.Tryz.func217, by kernel_rfl, c_slices_EqualFunc_sint⟩
theorem t_bits_Mul32 : FunOk Go.Proofs.Tryz.prog (drawsOf Go.Proofs.Tryz.prog) 218 a_bits_Mul32 := ⟨_, k_bits_Mul32, Go.Proofs.Tryz.func218, by kernel_rfl, c_bits_Mul32⟩
theorem t_bits_Mul64 : FunOk Go.Proofs.Tryz.prog (drawsOf Go.Proofs.Tryz.prog) 219 a_bits_Mul64 := ⟨_, k_bits_Mul64, Go.Proofs.Tryz.func219, by kernel_rfl, c_bits_Mul64⟩
theorem t_kind_row : FunOk Go.Proofs.Tryz.prog (drawsOf Go.Proofs.Tryz.prog) 220 a_kind_row := ⟨_, k_kind_row, Go.Proofs.Tryz.func220, by kernel_rfl, c_kind_row⟩
theorem t_slices_Repeat_2int : FunOk Go.Proofs.Tryz.prog (drawsOf Go.Proofs.Tryz.prog) 221 a_slices_Repeat_2int := ⟨_, k_slices_Repeat_2int, Go.Proofs.Tryz.func221, by kernel_rfl, c_slices_Repeat_2int⟩
theorem t_slices_IndexFunc_Form : FunOk Go.Proofs.Tryz.prog (drawsOf Go.Proofs.Tryz.prog) 236 a_slices_IndexFunc_Form := ⟨_, k_slices_IndexFunc_Form, Go.Proofs.Tryz.func236, by kernel_rfl, c_slices_IndexFunc_Form⟩
theorem tab_ok : RowsOk (FunOk Go.Proofs.Tryz.prog (drawsOf Go.Proofs.Tryz.prog)) 0 tab :=
  ⟨⟨t_locksteplaw20_PacksTwice, trivial⟩,
  ⟨t_alias_Follows, t_locksteplaw20_awake, t_packs_Seeds, t_packs_Lanes, t_packs_Tree, t_alias_Address, trivial⟩,
  ⟨t_lockstepref02_Ints, t_alias_right, t_alias_touch, t_alias_with, t_alias_Follows_1, t_check_Check, t_word_Cut, trivial⟩,
  ⟨t_locksteplaw20_awake_1, t_packs_Neighbours, t_packs_right, t_packs_next, t_packs_pair, t_kind_Shape, trivial⟩,
  ⟨t_check_Shapes, t_slices_ContainsFunc_int, t_packs_Tree_1, t_packs_grower_node, t_alias_address, t_affine_Of, t_slices_Equal_Term, t_check_look, t_word_May, trivial⟩,
  ⟨t_packs_neighbours, t_kind_Pure, t_slices_IndexFunc_int, trivial⟩,
  ⟨t_slices_Equal_int, t_packs_grower_here, t_packs_grower_constants, t_packs_binary, t_packs_grower_args, t_packs_grower_loads, t_code_May, t_affine_finder_form, t_check_checker_shape, t_check_checker_typed, t_check_checker_defined, t_check_checker_shapes, trivial⟩,
  ⟨t_check_checker_places, t_packs_neighbours_1, t_packs_grower_constants_1, t_packs_grower_loads_1, t_code_Size, t_code_in, t_slices_ContainsFunc_Block, t_code_May_1, trivial⟩,
  ⟨t_code_mayBlock, t_affine_finder_made, t_graph_Of, t_dom_Tree, t_dom_Over, t_check_checker_typed_1, t_slices_ContainsFunc_Phi, t_check_checker_typed_2, t_slices_ContainsFunc_Op, t_check_checker_typed_3, t_check_checker_of, t_check_checker_put, t_check_scalar, t_kind_Gives, t_check_checker_uses, t_check_checker_defined_1, trivial⟩,
  ⟨t_check_checker_shapes_1, t_check_checker_places_1, t_code_in_1, t_slices_IndexFunc_Block, trivial⟩,
  ⟨t_code_lists, t_affine_Plus, t_affine_Minus, t_affine_Times, t_graph_goes, t_graph_Of_1, t_slices_Values_int, t_graph_Make, t_graph_Order, t_slices_Repeat_int, t_dom_meet, t_dom_in, t_dom_Meet, t_slices_IndexFunc_Phi, trivial⟩,
  ⟨t_slices_IndexFunc_Op, t_kind_May, t_kind_stores, t_kind_Takes, t_affine_may, t_affine_both, t_affine_Plus_1, t_affine_Minus_1, t_affine_May, t_affine_Times_1, trivial⟩,
  ⟨t_slices_Values_int_int__1, t_slices_ContainsFunc_sint, t_graph_Make_1, t_graph_rising, t_graph_preds, t_graph_May, t_slices_Reverse_int, t_bits_Mul, t_dom_right, t_dom_in_1, t_dom_depth, t_kind_takes, t_kind_value, t_kind_May_1, trivial⟩,
  ⟨t_slices_ContainsFunc_Form, t_affine_may_1, t_slices_IndexFunc_sint, t_slices_EqualFunc_sint, t_bits_Mul32, t_bits_Mul64, t_kind_row, t_slices_Repeat_2int, trivial⟩,
  ⟨t_slices_IndexFunc_Form, trivial⟩, trivial⟩
theorem T_ok : TabOk Go.Proofs.Tryz.prog (drawsOf Go.Proofs.Tryz.prog) T := by
  refine tabOk_if ?_ (tabOk_if ?_ (tabOk_if ?_ (tabOk_of tab_ok)))
  · exact Go.Proofs.Tryz.ext_compact
  · exact fun args σ v σ' h => cloneG_ext (draws_ok (by kernel_rfl)) Go.Proofs.Tryz.func68 (by kernel_rfl) (by kernel_rfl) args σ v σ' h
  · exact Go.Proofs.Tryz.ext_sorted
end AC
