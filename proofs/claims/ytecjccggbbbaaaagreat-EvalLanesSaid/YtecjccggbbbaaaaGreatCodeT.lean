/- That the table stands for the loaded program. Printed by a program. -/
import Derived.Test.YtecjccggbbbaaaaGreatTable
import Derived.Test.YtecjccggbbbaaaaGreatSortC
set_option linter.unusedVariables false
set_option linter.unusedSimpArgs false
namespace AC
open Go.A Go.A.Lex
theorem t_locksteplaw13_EvalLanes : FunOk Go.Proofs.Tryz.prog (drawsOf Go.Proofs.Tryz.prog) 6 a_locksteplaw13_EvalLanes := ⟨_, k_locksteplaw13_EvalLanes, Go.Proofs.Tryz.func6, by kernel_rfl, c_locksteplaw13_EvalLanes⟩
theorem t_locksteplaw13_awake : FunOk Go.Proofs.Tryz.prog (drawsOf Go.Proofs.Tryz.prog) 18 a_locksteplaw13_awake := ⟨_, k_locksteplaw13_awake, Go.Proofs.Tryz.func18, by kernel_rfl, c_locksteplaw13_awake⟩
theorem t_mem_New : FunOk Go.Proofs.Tryz.prog (drawsOf Go.Proofs.Tryz.prog) 19 a_mem_New := ⟨_, k_mem_New, Go.Proofs.Tryz.func19, by kernel_rfl, c_mem_New⟩
theorem t_eval_Run : FunOk Go.Proofs.Tryz.prog (drawsOf Go.Proofs.Tryz.prog) 20 a_eval_Run := ⟨_, k_eval_Run, Go.Proofs.Tryz.func20, by kernel_rfl, c_eval_Run⟩
theorem t_lockstepref11_Check : FunOk Go.Proofs.Tryz.prog (drawsOf Go.Proofs.Tryz.prog) 22 a_lockstepref11_Check := ⟨_, k_lockstepref11_Check, Go.Proofs.Tryz.func22, by kernel_rfl, c_lockstepref11_Check⟩
theorem t_lockstepref02_Ints : FunOk Go.Proofs.Tryz.prog (drawsOf Go.Proofs.Tryz.prog) 32 a_lockstepref02_Ints := ⟨_, k_lockstepref02_Ints, Go.Proofs.Tryz.func32, by kernel_rfl, c_lockstepref02_Ints⟩
theorem t_check_Check : FunOk Go.Proofs.Tryz.prog (drawsOf Go.Proofs.Tryz.prog) 40 a_check_Check := ⟨_, k_check_Check, Go.Proofs.Tryz.func40, by kernel_rfl, c_check_Check⟩
theorem t_word_Cut : FunOk Go.Proofs.Tryz.prog (drawsOf Go.Proofs.Tryz.prog) 41 a_word_Cut := ⟨_, k_word_Cut, Go.Proofs.Tryz.func41, by kernel_rfl, c_word_Cut⟩
theorem t_eval_machine_run : FunOk Go.Proofs.Tryz.prog (drawsOf Go.Proofs.Tryz.prog) 42 a_eval_machine_run := ⟨_, k_eval_machine_run, Go.Proofs.Tryz.func42, by kernel_rfl, c_eval_machine_run⟩
theorem t_lockstepref01_May : FunOk Go.Proofs.Tryz.prog (drawsOf Go.Proofs.Tryz.prog) 43 a_lockstepref01_May := ⟨_, k_lockstepref01_May, Go.Proofs.Tryz.func43, by kernel_rfl, c_lockstepref01_May⟩
theorem t_lockstepref01_Cut : FunOk Go.Proofs.Tryz.prog (drawsOf Go.Proofs.Tryz.prog) 44 a_lockstepref01_Cut := ⟨_, k_lockstepref01_Cut, Go.Proofs.Tryz.func44, by kernel_rfl, c_lockstepref01_Cut⟩
theorem t_lockstepref04_May : FunOk Go.Proofs.Tryz.prog (drawsOf Go.Proofs.Tryz.prog) 47 a_lockstepref04_May := ⟨_, k_lockstepref04_May, Go.Proofs.Tryz.func47, by kernel_rfl, c_lockstepref04_May⟩
theorem t_lockstepref11_shape : FunOk Go.Proofs.Tryz.prog (drawsOf Go.Proofs.Tryz.prog) 48 a_lockstepref11_shape := ⟨_, k_lockstepref11_shape, Go.Proofs.Tryz.func48, by kernel_rfl, c_lockstepref11_shape⟩
theorem t_lockstepref11_typed : FunOk Go.Proofs.Tryz.prog (drawsOf Go.Proofs.Tryz.prog) 49 a_lockstepref11_typed := ⟨_, k_lockstepref11_typed, Go.Proofs.Tryz.func49, by kernel_rfl, c_lockstepref11_typed⟩
theorem t_lockstepref11_Defs : FunOk Go.Proofs.Tryz.prog (drawsOf Go.Proofs.Tryz.prog) 50 a_lockstepref11_Defs := ⟨_, k_lockstepref11_Defs, Go.Proofs.Tryz.func50, by kernel_rfl, c_lockstepref11_Defs⟩
theorem t_lockstepref03_Value : FunOk Go.Proofs.Tryz.prog (drawsOf Go.Proofs.Tryz.prog) 51 a_lockstepref03_Value := ⟨_, k_lockstepref03_Value, Go.Proofs.Tryz.func51, by kernel_rfl, c_lockstepref03_Value⟩
theorem t_lockstepref11_Find : FunOk Go.Proofs.Tryz.prog (drawsOf Go.Proofs.Tryz.prog) 52 a_lockstepref11_Find := ⟨_, k_lockstepref11_Find, Go.Proofs.Tryz.func52, by kernel_rfl, c_lockstepref11_Find⟩
theorem t_lockstepref11_Uses : FunOk Go.Proofs.Tryz.prog (drawsOf Go.Proofs.Tryz.prog) 53 a_lockstepref11_Uses := ⟨_, k_lockstepref11_Uses, Go.Proofs.Tryz.func53, by kernel_rfl, c_lockstepref11_Uses⟩
theorem t_lockstepref06_Of : FunOk Go.Proofs.Tryz.prog (drawsOf Go.Proofs.Tryz.prog) 54 a_lockstepref06_Of := ⟨_, k_lockstepref06_Of, Go.Proofs.Tryz.func54, by kernel_rfl, c_lockstepref06_Of⟩
theorem t_lockstepref07_Tree : FunOk Go.Proofs.Tryz.prog (drawsOf Go.Proofs.Tryz.prog) 55 a_lockstepref07_Tree := ⟨_, k_lockstepref07_Tree, Go.Proofs.Tryz.func55, by kernel_rfl, c_lockstepref07_Tree⟩
theorem t_lockstepref07_Meet : FunOk Go.Proofs.Tryz.prog (drawsOf Go.Proofs.Tryz.prog) 56 a_lockstepref07_Meet := ⟨_, k_lockstepref07_Meet, Go.Proofs.Tryz.func56, by kernel_rfl, c_lockstepref07_Meet⟩
theorem t_kind_Shape : FunOk Go.Proofs.Tryz.prog (drawsOf Go.Proofs.Tryz.prog) 63 a_kind_Shape := ⟨_, k_kind_Shape, Go.Proofs.Tryz.func63, by kernel_rfl, c_kind_Shape⟩
theorem t_slices_ContainsFunc_int : FunOk Go.Proofs.Tryz.prog (drawsOf Go.Proofs.Tryz.prog) 65 a_slices_ContainsFunc_int := ⟨_, k_slices_ContainsFunc_int, Go.Proofs.Tryz.func65, by kernel_rfl, c_slices_ContainsFunc_int⟩
theorem t_check_look : FunOk Go.Proofs.Tryz.prog (drawsOf Go.Proofs.Tryz.prog) 75 a_check_look := ⟨_, k_check_look, Go.Proofs.Tryz.func75, by kernel_rfl, c_check_look⟩
theorem t_word_May : FunOk Go.Proofs.Tryz.prog (drawsOf Go.Proofs.Tryz.prog) 76 a_word_May := ⟨_, k_word_May, Go.Proofs.Tryz.func76, by kernel_rfl, c_word_May⟩
theorem t_eval_machine_all : FunOk Go.Proofs.Tryz.prog (drawsOf Go.Proofs.Tryz.prog) 77 a_eval_machine_all := ⟨_, k_eval_machine_all, Go.Proofs.Tryz.func77, by kernel_rfl, c_eval_machine_all⟩
theorem t_eval_machine_phis : FunOk Go.Proofs.Tryz.prog (drawsOf Go.Proofs.Tryz.prog) 78 a_eval_machine_phis := ⟨_, k_eval_machine_phis, Go.Proofs.Tryz.func78, by kernel_rfl, c_eval_machine_phis⟩
theorem t_eval_machine_step : FunOk Go.Proofs.Tryz.prog (drawsOf Go.Proofs.Tryz.prog) 79 a_eval_machine_step := ⟨_, k_eval_machine_step, Go.Proofs.Tryz.func79, by kernel_rfl, c_eval_machine_step⟩
theorem t_eval_machine_next : FunOk Go.Proofs.Tryz.prog (drawsOf Go.Proofs.Tryz.prog) 80 a_eval_machine_next := ⟨_, k_eval_machine_next, Go.Proofs.Tryz.func80, by kernel_rfl, c_eval_machine_next⟩
theorem t_lockstepref04_list : FunOk Go.Proofs.Tryz.prog (drawsOf Go.Proofs.Tryz.prog) 81 a_lockstepref04_list := ⟨_, k_lockstepref04_list, Go.Proofs.Tryz.func81, by kernel_rfl, c_lockstepref04_list⟩
theorem t_lockstepref04_num : FunOk Go.Proofs.Tryz.prog (drawsOf Go.Proofs.Tryz.prog) 82 a_lockstepref04_num := ⟨_, k_lockstepref04_num, Go.Proofs.Tryz.func82, by kernel_rfl, c_lockstepref04_num⟩
theorem t_lockstepref04_Size : FunOk Go.Proofs.Tryz.prog (drawsOf Go.Proofs.Tryz.prog) 83 a_lockstepref04_Size := ⟨_, k_lockstepref04_Size, Go.Proofs.Tryz.func83, by kernel_rfl, c_lockstepref04_Size⟩
theorem t_lockstepref06_Reach : FunOk Go.Proofs.Tryz.prog (drawsOf Go.Proofs.Tryz.prog) 84 a_lockstepref06_Reach := ⟨_, k_lockstepref06_Reach, Go.Proofs.Tryz.func84, by kernel_rfl, c_lockstepref06_Reach⟩
theorem t_lockstepref03_May : FunOk Go.Proofs.Tryz.prog (drawsOf Go.Proofs.Tryz.prog) 85 a_lockstepref03_May := ⟨_, k_lockstepref03_May, Go.Proofs.Tryz.func85, by kernel_rfl, c_lockstepref03_May⟩
theorem t_lockstepref03_Gives : FunOk Go.Proofs.Tryz.prog (drawsOf Go.Proofs.Tryz.prog) 86 a_lockstepref03_Gives := ⟨_, k_lockstepref03_Gives, Go.Proofs.Tryz.func86, by kernel_rfl, c_lockstepref03_Gives⟩
theorem t_lockstepref03_Takes : FunOk Go.Proofs.Tryz.prog (drawsOf Go.Proofs.Tryz.prog) 87 a_lockstepref03_Takes := ⟨_, k_lockstepref03_Takes, Go.Proofs.Tryz.func87, by kernel_rfl, c_lockstepref03_Takes⟩
theorem t_lockstepref06_Has : FunOk Go.Proofs.Tryz.prog (drawsOf Go.Proofs.Tryz.prog) 88 a_lockstepref06_Has := ⟨_, k_lockstepref06_Has, Go.Proofs.Tryz.func88, by kernel_rfl, c_lockstepref06_Has⟩
theorem t_lockstepref06_Make : FunOk Go.Proofs.Tryz.prog (drawsOf Go.Proofs.Tryz.prog) 89 a_lockstepref06_Make := ⟨_, k_lockstepref06_Make, Go.Proofs.Tryz.func89, by kernel_rfl, c_lockstepref06_Make⟩
theorem t_lockstepref06_May : FunOk Go.Proofs.Tryz.prog (drawsOf Go.Proofs.Tryz.prog) 90 a_lockstepref06_May := ⟨_, k_lockstepref06_May, Go.Proofs.Tryz.func90, by kernel_rfl, c_lockstepref06_May⟩
theorem t_lockstepref07_Right : FunOk Go.Proofs.Tryz.prog (drawsOf Go.Proofs.Tryz.prog) 91 a_lockstepref07_Right := ⟨_, k_lockstepref07_Right, Go.Proofs.Tryz.func91, by kernel_rfl, c_lockstepref07_Right⟩
theorem t_lockstepref07_Path : FunOk Go.Proofs.Tryz.prog (drawsOf Go.Proofs.Tryz.prog) 92 a_lockstepref07_Path := ⟨_, k_lockstepref07_Path, Go.Proofs.Tryz.func92, by kernel_rfl, c_lockstepref07_Path⟩
theorem t_slices_IndexFunc_int : FunOk Go.Proofs.Tryz.prog (drawsOf Go.Proofs.Tryz.prog) 95 a_slices_IndexFunc_int := ⟨_, k_slices_IndexFunc_int, Go.Proofs.Tryz.func95, by kernel_rfl, c_slices_IndexFunc_int⟩
theorem t_slices_Equal_int : FunOk Go.Proofs.Tryz.prog (drawsOf Go.Proofs.Tryz.prog) 96 a_slices_Equal_int := ⟨_, k_slices_Equal_int, Go.Proofs.Tryz.func96, by kernel_rfl, c_slices_Equal_int⟩
theorem t_code_May : FunOk Go.Proofs.Tryz.prog (drawsOf Go.Proofs.Tryz.prog) 106 a_code_May := ⟨_, k_code_May, Go.Proofs.Tryz.func106, by kernel_rfl, c_code_May⟩
theorem t_check_checker_shape : FunOk Go.Proofs.Tryz.prog (drawsOf Go.Proofs.Tryz.prog) 108 a_check_checker_shape := ⟨_, k_check_checker_shape, Go.Proofs.Tryz.func108, by kernel_rfl, c_check_checker_shape⟩
theorem t_check_checker_typed : FunOk Go.Proofs.Tryz.prog (drawsOf Go.Proofs.Tryz.prog) 109 a_check_checker_typed := ⟨_, k_check_checker_typed, Go.Proofs.Tryz.func109, by kernel_rfl, c_check_checker_typed⟩
theorem t_check_checker_defined : FunOk Go.Proofs.Tryz.prog (drawsOf Go.Proofs.Tryz.prog) 110 a_check_checker_defined := ⟨_, k_check_checker_defined, Go.Proofs.Tryz.func110, by kernel_rfl, c_check_checker_defined⟩
theorem t_check_checker_shapes : FunOk Go.Proofs.Tryz.prog (drawsOf Go.Proofs.Tryz.prog) 111 a_check_checker_shapes := ⟨_, k_check_checker_shapes, Go.Proofs.Tryz.func111, by kernel_rfl, c_check_checker_shapes⟩
theorem t_check_checker_places : FunOk Go.Proofs.Tryz.prog (drawsOf Go.Proofs.Tryz.prog) 112 a_check_checker_places := ⟨_, k_check_checker_places, Go.Proofs.Tryz.func112, by kernel_rfl, c_check_checker_places⟩
theorem t_eval_machine_ways : FunOk Go.Proofs.Tryz.prog (drawsOf Go.Proofs.Tryz.prog) 113 a_eval_machine_ways := ⟨_, k_eval_machine_ways, Go.Proofs.Tryz.func113, by kernel_rfl, c_eval_machine_ways⟩
theorem t_eval_machine_guarded : FunOk Go.Proofs.Tryz.prog (drawsOf Go.Proofs.Tryz.prog) 114 a_eval_machine_guarded := ⟨_, k_eval_machine_guarded, Go.Proofs.Tryz.func114, by kernel_rfl, c_eval_machine_guarded⟩
theorem t_lockstepref03_Shape : FunOk Go.Proofs.Tryz.prog (drawsOf Go.Proofs.Tryz.prog) 115 a_lockstepref03_Shape := ⟨_, k_lockstepref03_Shape, Go.Proofs.Tryz.func115, by kernel_rfl, c_lockstepref03_Shape⟩
theorem t_lockstepref03_Args : FunOk Go.Proofs.Tryz.prog (drawsOf Go.Proofs.Tryz.prog) 116 a_lockstepref03_Args := ⟨_, k_lockstepref03_Args, Go.Proofs.Tryz.func116, by kernel_rfl, c_lockstepref03_Args⟩
theorem t_lockstepref03_Fits : FunOk Go.Proofs.Tryz.prog (drawsOf Go.Proofs.Tryz.prog) 117 a_lockstepref03_Fits := ⟨_, k_lockstepref03_Fits, Go.Proofs.Tryz.func117, by kernel_rfl, c_lockstepref03_Fits⟩
theorem t_lockstepref06_Same : FunOk Go.Proofs.Tryz.prog (drawsOf Go.Proofs.Tryz.prog) 118 a_lockstepref06_Same := ⟨_, k_lockstepref06_Same, Go.Proofs.Tryz.func118, by kernel_rfl, c_lockstepref06_Same⟩
theorem t_code_Size : FunOk Go.Proofs.Tryz.prog (drawsOf Go.Proofs.Tryz.prog) 124 a_code_Size := ⟨_, k_code_Size, Go.Proofs.Tryz.func124, by kernel_rfl, c_code_Size⟩
theorem t_code_in : FunOk Go.Proofs.Tryz.prog (drawsOf Go.Proofs.Tryz.prog) 125 a_code_in := ⟨_, k_code_in, Go.Proofs.Tryz.func125, by kernel_rfl, c_code_in⟩
theorem t_slices_ContainsFunc_Block : FunOk Go.Proofs.Tryz.prog (drawsOf Go.Proofs.Tryz.prog) 126 a_slices_ContainsFunc_Block := ⟨_, k_slices_ContainsFunc_Block, Go.Proofs.Tryz.func126, by kernel_rfl, c_slices_ContainsFunc_Block⟩
theorem t_code_May_1 : FunOk Go.Proofs.Tryz.prog (drawsOf Go.Proofs.Tryz.prog) 127 a_code_May_1 := ⟨_, k_code_May_1, Go.Proofs.Tryz.func127, by kernel_rfl, c_code_May_1⟩
theorem t_code_mayBlock : FunOk Go.Proofs.Tryz.prog (drawsOf Go.Proofs.Tryz.prog) 128 a_code_mayBlock := ⟨_, k_code_mayBlock, Go.Proofs.Tryz.func128, by kernel_rfl, c_code_mayBlock⟩
theorem t_graph_Of : FunOk Go.Proofs.Tryz.prog (drawsOf Go.Proofs.Tryz.prog) 130 a_graph_Of := ⟨_, k_graph_Of, Go.Proofs.Tryz.func130, by kernel_rfl, c_graph_Of⟩
theorem t_dom_Tree : FunOk Go.Proofs.Tryz.prog (drawsOf Go.Proofs.Tryz.prog) 131 a_dom_Tree := ⟨_, k_dom_Tree, Go.Proofs.Tryz.func131, by kernel_rfl, c_dom_Tree⟩
theorem t_dom_Over : FunOk Go.Proofs.Tryz.prog (drawsOf Go.Proofs.Tryz.prog) 132 a_dom_Over := ⟨_, k_dom_Over, Go.Proofs.Tryz.func132, by kernel_rfl, c_dom_Over⟩
theorem t_check_checker_typed_1 : FunOk Go.Proofs.Tryz.prog (drawsOf Go.Proofs.Tryz.prog) 133 a_check_checker_typed_1 := ⟨_, k_check_checker_typed_1, Go.Proofs.Tryz.func133, by kernel_rfl, c_check_checker_typed_1⟩
theorem t_slices_ContainsFunc_Phi : FunOk Go.Proofs.Tryz.prog (drawsOf Go.Proofs.Tryz.prog) 134 a_slices_ContainsFunc_Phi := ⟨_, k_slices_ContainsFunc_Phi, Go.Proofs.Tryz.func134, by kernel_rfl, c_slices_ContainsFunc_Phi⟩
theorem t_check_checker_typed_2 : FunOk Go.Proofs.Tryz.prog (drawsOf Go.Proofs.Tryz.prog) 135 a_check_checker_typed_2 := ⟨_, k_check_checker_typed_2, Go.Proofs.Tryz.func135, by kernel_rfl, c_check_checker_typed_2⟩
theorem t_slices_ContainsFunc_Op : FunOk Go.Proofs.Tryz.prog (drawsOf Go.Proofs.Tryz.prog) 136 a_slices_ContainsFunc_Op := ⟨_, k_slices_ContainsFunc_Op, Go.Proofs.Tryz.func136, by kernel_rfl, c_slices_ContainsFunc_Op⟩
theorem t_check_checker_typed_3 : FunOk Go.Proofs.Tryz.prog (drawsOf Go.Proofs.Tryz.prog) 137 a_check_checker_typed_3 := ⟨_, k_check_checker_typed_3, Go.Proofs.Tryz.func137, by kernel_rfl, c_check_checker_typed_3⟩
theorem t_check_checker_of : FunOk Go.Proofs.Tryz.prog (drawsOf Go.Proofs.Tryz.prog) 138 a_check_checker_of := ⟨_, k_check_checker_of, Go.Proofs.Tryz.func138, by kernel_rfl, c_check_checker_of⟩
theorem t_check_checker_put : FunOk Go.Proofs.Tryz.prog (drawsOf Go.Proofs.Tryz.prog) 139 a_check_checker_put := ⟨_, k_check_checker_put, Go.Proofs.Tryz.func139, by kernel_rfl, c_check_checker_put⟩
theorem t_check_scalar : FunOk Go.Proofs.Tryz.prog (drawsOf Go.Proofs.Tryz.prog) 140 a_check_scalar := ⟨_, k_check_scalar, Go.Proofs.Tryz.func140, by kernel_rfl, c_check_scalar⟩
theorem t_kind_Gives : FunOk Go.Proofs.Tryz.prog (drawsOf Go.Proofs.Tryz.prog) 141 a_kind_Gives := ⟨_, k_kind_Gives, Go.Proofs.Tryz.func141, by kernel_rfl, c_kind_Gives⟩
theorem t_check_checker_uses : FunOk Go.Proofs.Tryz.prog (drawsOf Go.Proofs.Tryz.prog) 142 a_check_checker_uses := ⟨_, k_check_checker_uses, Go.Proofs.Tryz.func142, by kernel_rfl, c_check_checker_uses⟩
theorem t_check_checker_defined_1 : FunOk Go.Proofs.Tryz.prog (drawsOf Go.Proofs.Tryz.prog) 143 a_check_checker_defined_1 := ⟨_, k_check_checker_defined_1, Go.Proofs.Tryz.func143, by kernel_rfl, c_check_checker_defined_1⟩
theorem t_check_checker_shapes_1 : FunOk Go.Proofs.Tryz.prog (drawsOf Go.Proofs.Tryz.prog) 144 a_check_checker_shapes_1 := ⟨_, k_check_checker_shapes_1, Go.Proofs.Tryz.func144, by kernel_rfl, c_check_checker_shapes_1⟩
theorem t_check_checker_places_1 : FunOk Go.Proofs.Tryz.prog (drawsOf Go.Proofs.Tryz.prog) 145 a_check_checker_places_1 := ⟨_, k_check_checker_places_1, Go.Proofs.Tryz.func145, by kernel_rfl, c_check_checker_places_1⟩
theorem t_eval_machine_constant : FunOk Go.Proofs.Tryz.prog (drawsOf Go.Proofs.Tryz.prog) 146 a_eval_machine_constant := ⟨_, k_eval_machine_constant, Go.Proofs.Tryz.func146, by kernel_rfl, c_eval_machine_constant⟩
theorem t_eval_machine_choose : FunOk Go.Proofs.Tryz.prog (drawsOf Go.Proofs.Tryz.prog) 147 a_eval_machine_choose := ⟨_, k_eval_machine_choose, Go.Proofs.Tryz.func147, by kernel_rfl, c_eval_machine_choose⟩
theorem t_eval_machine_width : FunOk Go.Proofs.Tryz.prog (drawsOf Go.Proofs.Tryz.prog) 148 a_eval_machine_width := ⟨_, k_eval_machine_width, Go.Proofs.Tryz.func148, by kernel_rfl, c_eval_machine_width⟩
theorem t_eval_machine_load : FunOk Go.Proofs.Tryz.prog (drawsOf Go.Proofs.Tryz.prog) 149 a_eval_machine_load := ⟨_, k_eval_machine_load, Go.Proofs.Tryz.func149, by kernel_rfl, c_eval_machine_load⟩
theorem t_eval_machine_store : FunOk Go.Proofs.Tryz.prog (drawsOf Go.Proofs.Tryz.prog) 150 a_eval_machine_store := ⟨_, k_eval_machine_store, Go.Proofs.Tryz.func150, by kernel_rfl, c_eval_machine_store⟩
theorem t_eval_machine_pack : FunOk Go.Proofs.Tryz.prog (drawsOf Go.Proofs.Tryz.prog) 151 a_eval_machine_pack := ⟨_, k_eval_machine_pack, Go.Proofs.Tryz.func151, by kernel_rfl, c_eval_machine_pack⟩
theorem t_eval_machine_get : FunOk Go.Proofs.Tryz.prog (drawsOf Go.Proofs.Tryz.prog) 152 a_eval_machine_get := ⟨_, k_eval_machine_get, Go.Proofs.Tryz.func152, by kernel_rfl, c_eval_machine_get⟩
theorem t_eval_machine_two : FunOk Go.Proofs.Tryz.prog (drawsOf Go.Proofs.Tryz.prog) 153 a_eval_machine_two := ⟨_, k_eval_machine_two, Go.Proofs.Tryz.func153, by kernel_rfl, c_eval_machine_two⟩
theorem t_eval_machine_guarded_1 : FunOk Go.Proofs.Tryz.prog (drawsOf Go.Proofs.Tryz.prog) 154 a_eval_machine_guarded_1 := ⟨_, k_eval_machine_guarded_1, Go.Proofs.Tryz.func154, by kernel_rfl, c_eval_machine_guarded_1⟩
theorem t_eval_machine_one : FunOk Go.Proofs.Tryz.prog (drawsOf Go.Proofs.Tryz.prog) 155 a_eval_machine_one := ⟨_, k_eval_machine_one, Go.Proofs.Tryz.func155, by kernel_rfl, c_eval_machine_one⟩
theorem t_code_in_1 : FunOk Go.Proofs.Tryz.prog (drawsOf Go.Proofs.Tryz.prog) 158 a_code_in_1 := ⟨_, k_code_in_1, Go.Proofs.Tryz.func158, by kernel_rfl, c_code_in_1⟩
theorem t_slices_IndexFunc_Block : FunOk Go.Proofs.Tryz.prog (drawsOf Go.Proofs.Tryz.prog) 159 a_slices_IndexFunc_Block := ⟨_, k_slices_IndexFunc_Block, Go.Proofs.Tryz.func159, by kernel_rfl, c_slices_IndexFunc_Block⟩
theorem t_code_lists : FunOk Go.Proofs.Tryz.prog (drawsOf Go.Proofs.Tryz.prog) 160 a_code_lists := ⟨_, k_code_lists, Go.Proofs.Tryz.func160, by kernel_rfl, c_code_lists⟩
theorem t_graph_goes : FunOk Go.Proofs.Tryz.prog (drawsOf Go.Proofs.Tryz.prog) 164 a_graph_goes := ⟨_, k_graph_goes, Go.Proofs.Tryz.func164, by kernel_rfl, c_graph_goes⟩
theorem t_graph_Of_1 : FunOk Go.Proofs.Tryz.prog (drawsOf Go.Proofs.Tryz.prog) 165 a_graph_Of_1 := ⟨_, k_graph_Of_1, Go.Proofs.Tryz.func165, by kernel_rfl, c_graph_Of_1⟩
theorem t_slices_Values_int : FunOk Go.Proofs.Tryz.prog (drawsOf Go.Proofs.Tryz.prog) 168 a_slices_Values_int := ⟨_, k_slices_Values_int, Go.Proofs.Tryz.func168, by kernel_rfl, c_slices_Values_int⟩
theorem t_graph_Make : FunOk Go.Proofs.Tryz.prog (drawsOf Go.Proofs.Tryz.prog) 169 a_graph_Make := ⟨_, k_graph_Make, Go.Proofs.Tryz.func169, by kernel_rfl, c_graph_Make⟩
theorem t_graph_Order : FunOk Go.Proofs.Tryz.prog (drawsOf Go.Proofs.Tryz.prog) 170 a_graph_Order := ⟨_, k_graph_Order, Go.Proofs.Tryz.func170, by kernel_rfl, c_graph_Order⟩
theorem t_slices_Repeat_int : FunOk Go.Proofs.Tryz.prog (drawsOf Go.Proofs.Tryz.prog) 171 a_slices_Repeat_int := ⟨_, k_slices_Repeat_int, Go.Proofs.Tryz.func171, by kernel_rfl, c_slices_Repeat_int⟩
theorem t_dom_meet : FunOk Go.Proofs.Tryz.prog (drawsOf Go.Proofs.Tryz.prog) 172 a_dom_meet := ⟨_, k_dom_meet, Go.Proofs.Tryz.func172, by kernel_rfl, c_dom_meet⟩
theorem t_dom_in : FunOk Go.Proofs.Tryz.prog (drawsOf Go.Proofs.Tryz.prog) 173 a_dom_in := ⟨_, k_dom_in, Go.Proofs.Tryz.func173, by kernel_rfl, c_dom_in⟩
theorem t_dom_Meet : FunOk Go.Proofs.Tryz.prog (drawsOf Go.Proofs.Tryz.prog) 174 a_dom_Meet := ⟨_, k_dom_Meet, Go.Proofs.Tryz.func174, by kernel_rfl, c_dom_Meet⟩
theorem t_slices_IndexFunc_Phi : FunOk Go.Proofs.Tryz.prog (drawsOf Go.Proofs.Tryz.prog) 175 a_slices_IndexFunc_Phi := ⟨_, k_slices_IndexFunc_Phi, Go.Proofs.Tryz.func175, by kernel_rfl, c_slices_IndexFunc_Phi⟩
theorem t_slices_IndexFunc_Op : FunOk Go.Proofs.Tryz.prog (drawsOf Go.Proofs.Tryz.prog) 176 a_slices_IndexFunc_Op := ⟨_, k_slices_IndexFunc_Op, Go.Proofs.Tryz.func176, by kernel_rfl, c_slices_IndexFunc_Op⟩
theorem t_kind_May : FunOk Go.Proofs.Tryz.prog (drawsOf Go.Proofs.Tryz.prog) 177 a_kind_May := ⟨_, k_kind_May, Go.Proofs.Tryz.func177, by kernel_rfl, c_kind_May⟩
theorem t_kind_stores : FunOk Go.Proofs.Tryz.prog (drawsOf Go.Proofs.Tryz.prog) 178 a_kind_stores := ⟨_, k_kind_stores, Go.Proofs.Tryz.func178, by kernel_rfl, c_kind_stores⟩
theorem t_kind_Takes : FunOk Go.Proofs.Tryz.prog (drawsOf Go.Proofs.Tryz.prog) 179 a_kind_Takes := ⟨_, k_kind_Takes, Go.Proofs.Tryz.func179, by kernel_rfl, c_kind_Takes⟩
theorem t_eval_same : FunOk Go.Proofs.Tryz.prog (drawsOf Go.Proofs.Tryz.prog) 180 a_eval_same := ⟨_, k_eval_same, Go.Proofs.Tryz.func180, by kernel_rfl, c_eval_same⟩
theorem t_mem_Mem_Read : FunOk Go.Proofs.Tryz.prog (drawsOf Go.Proofs.Tryz.prog) 181 a_mem_Mem_Read := ⟨_, k_mem_Mem_Read, Go.Proofs.Tryz.func181, by kernel_rfl, c_mem_Mem_Read⟩
theorem t_mem_Mem_Write : FunOk Go.Proofs.Tryz.prog (drawsOf Go.Proofs.Tryz.prog) 182 a_mem_Mem_Write := ⟨_, k_mem_Mem_Write, Go.Proofs.Tryz.func182, by kernel_rfl, c_mem_Mem_Write⟩
theorem t_word_Do : FunOk Go.Proofs.Tryz.prog (drawsOf Go.Proofs.Tryz.prog) 183 a_word_Do := ⟨_, k_word_Do, Go.Proofs.Tryz.func183, by kernel_rfl, c_word_Do⟩
theorem t_slices_Values_int_int__1 : FunOk Go.Proofs.Tryz.prog (drawsOf Go.Proofs.Tryz.prog) 193 a_slices_Values_int_int__1 := ⟨_, k_slices_Values_int_int__1, Go.Proofs.Tryz.func193, by kernel_rfl, c_slices_Values_int_int__1⟩
theorem t_slices_ContainsFunc_sint : FunOk Go.Proofs.Tryz.prog (drawsOf Go.Proofs.Tryz.prog) 194 a_slices_ContainsFunc_sint := ⟨_, k_slices_ContainsFunc_sint, Go.Proofs.Tryz.func194, by kernel_rfl, c_slices_ContainsFunc_sint⟩
theorem t_graph_Make_1 : FunOk Go.Proofs.Tryz.prog (drawsOf Go.Proofs.Tryz.prog) 195 a_graph_Make_1 := ⟨_, k_graph_Make_1, Go.Proofs.Tryz.func195, by kernel_rfl, c_graph_Make_1⟩
theorem t_graph_rising : FunOk Go.Proofs.Tryz.prog (drawsOf Go.Proofs.Tryz.prog) 196 a_graph_rising := ⟨_, k_graph_rising, Go.Proofs.Tryz.func196, by kernel_rfl, c_graph_rising⟩
theorem t_graph_preds : FunOk Go.Proofs.Tryz.prog (drawsOf Go.Proofs.Tryz.prog) 197 a_graph_preds := ⟨_, k_graph_preds, Go.Proofs.Tryz.func197, by kernel_rfl, c_graph_preds⟩
theorem t_graph_May : FunOk Go.Proofs.Tryz.prog (drawsOf Go.Proofs.Tryz.prog) 198 a_graph_May := ⟨_, k_graph_May, Go.Proofs.Tryz.func198, by kernel_rfl, c_graph_May⟩
theorem t_slices_Reverse_int : FunOk Go.Proofs.Tryz.prog (drawsOf Go.Proofs.Tryz.prog) 199 a_slices_Reverse_int := ⟨_, k_slices_Reverse_int, Go.Proofs.Tryz.func199, by kernel_rfl, c_slices_Reverse_int⟩
theorem t_bits_Mul : FunOk Go.Proofs.Tryz.prog (drawsOf Go.Proofs.Tryz.prog) 200 a_bits_Mul := ⟨_, k_bits_Mul, Go.Proofs.Tryz.func200, by kernel_rfl, c_bits_Mul⟩
theorem t_dom_right : FunOk Go.Proofs.Tryz.prog (drawsOf Go.Proofs.Tryz.prog) 201 a_dom_right := ⟨_, k_dom_right, Go.Proofs.Tryz.func201, by kernel_rfl, c_dom_right⟩
theorem t_dom_in_1 : FunOk Go.Proofs.Tryz.prog (drawsOf Go.Proofs.Tryz.prog) 202 a_dom_in_1 := ⟨_, k_dom_in_1, Go.Proofs.Tryz.func202, by kernel_rfl, c_dom_in_1⟩
theorem t_dom_depth : FunOk Go.Proofs.Tryz.prog (drawsOf Go.Proofs.Tryz.prog) 203 a_dom_depth := ⟨_, k_dom_depth, Go.Proofs.Tryz.func203, by kernel_rfl, c_dom_depth⟩
theorem t_kind_takes : FunOk Go.Proofs.Tryz.prog (drawsOf Go.Proofs.Tryz.prog) 204 a_kind_takes := ⟨_, k_kind_takes, Go.Proofs.Tryz.func204, by kernel_rfl, c_kind_takes⟩
theorem t_kind_value : FunOk Go.Proofs.Tryz.prog (drawsOf Go.Proofs.Tryz.prog) 205 a_kind_value := ⟨_, k_kind_value, Go.Proofs.Tryz.func205, by kernel_rfl, c_kind_value⟩
theorem t_kind_May_1 : FunOk Go.Proofs.Tryz.prog (drawsOf Go.Proofs.Tryz.prog) 206 a_kind_May_1 := ⟨_, k_kind_May_1, Go.Proofs.Tryz.func206, by kernel_rfl, c_kind_May_1⟩
theorem t_mem_may : FunOk Go.Proofs.Tryz.prog (drawsOf Go.Proofs.Tryz.prog) 207 a_mem_may := ⟨_, k_mem_may, Go.Proofs.Tryz.func207, by kernel_rfl, c_mem_may⟩
theorem t_mem_Mem_There : FunOk Go.Proofs.Tryz.prog (drawsOf Go.Proofs.Tryz.prog) 208 a_mem_Mem_There := ⟨_, k_mem_Mem_There, Go.Proofs.Tryz.func208, by kernel_rfl, c_mem_Mem_There⟩
theorem t_word_Two : FunOk Go.Proofs.Tryz.prog (drawsOf Go.Proofs.Tryz.prog) 209 a_word_Two := ⟨_, k_word_Two, Go.Proofs.Tryz.func209, by kernel_rfl, c_word_Two⟩
theorem t_word_ways : FunOk Go.Proofs.Tryz.prog (drawsOf Go.Proofs.Tryz.prog) 210 a_word_ways := ⟨_, k_word_ways, Go.Proofs.Tryz.func210, by kernel_rfl, c_word_ways⟩
theorem t_slices_IndexFunc_sint : FunOk Go.Proofs.Tryz.prog (drawsOf Go.Proofs.Tryz.prog) 216 a_slices_IndexFunc_sint := ⟨_, k_slices_IndexFunc_sint, Go.Proofs.Tryz.func216, by kernel_rfl, c_slices_IndexFunc_sint⟩
theorem t_slices_EqualFunc_sint : FunOk Go.Proofs.Tryz.prog (drawsOf Go.Proofs.Tryz.prog) 217 a_slices_EqualFunc_sint := ⟨_, k_slices_EqualFunc_sint, Go.Proofs.Tryz.func217, by kernel_rfl, c_slices_EqualFunc_sint⟩
theorem t_bits_Mul32 : FunOk Go.Proofs.Tryz.prog (drawsOf Go.Proofs.Tryz.prog) 218 a_bits_Mul32 := ⟨_, k_bits_Mul32, Go.Proofs.Tryz.func218, by kernel_rfl, c_bits_Mul32⟩
theorem t_bits_Mul64 : FunOk Go.Proofs.Tryz.prog (drawsOf Go.Proofs.Tryz.prog) 219 a_bits_Mul64 := ⟨_, k_bits_Mul64, Go.Proofs.Tryz.func219, by kernel_rfl, c_bits_Mul64⟩
theorem t_kind_row : FunOk Go.Proofs.Tryz.prog (drawsOf Go.Proofs.Tryz.prog) 220 a_kind_row := ⟨_, k_kind_row, Go.Proofs.Tryz.func220, by kernel_rfl, c_kind_row⟩
theorem t_slices_Repeat_2int : FunOk Go.Proofs.Tryz.prog (drawsOf Go.Proofs.Tryz.prog) 221 a_slices_Repeat_2int := ⟨_, k_slices_Repeat_2int, Go.Proofs.Tryz.func221, by kernel_rfl, c_slices_Repeat_2int⟩
theorem t_word_ways_1 : FunOk Go.Proofs.Tryz.prog (drawsOf Go.Proofs.Tryz.prog) 222 a_word_ways_1 := ⟨_, k_word_ways_1, Go.Proofs.Tryz.func222, by kernel_rfl, c_word_ways_1⟩
theorem t_word_ways_2 : FunOk Go.Proofs.Tryz.prog (drawsOf Go.Proofs.Tryz.prog) 223 a_word_ways_2 := ⟨_, k_word_ways_2, Go.Proofs.Tryz.func223, by kernel_rfl, c_word_ways_2⟩
theorem t_word_ways_3 : FunOk Go.Proofs.Tryz.prog (drawsOf Go.Proofs.Tryz.prog) 224 a_word_ways_3 := ⟨_, k_word_ways_3, Go.Proofs.Tryz.func224, by kernel_rfl, c_word_ways_3⟩
theorem t_word_ways_4 : FunOk Go.Proofs.Tryz.prog (drawsOf Go.Proofs.Tryz.prog) 225 a_word_ways_4 := ⟨_, k_word_ways_4, Go.Proofs.Tryz.func225, by kernel_rfl, c_word_ways_4⟩
theorem t_word_ways_5 : FunOk Go.Proofs.Tryz.prog (drawsOf Go.Proofs.Tryz.prog) 226 a_word_ways_5 := ⟨_, k_word_ways_5, Go.Proofs.Tryz.func226, by kernel_rfl, c_word_ways_5⟩
theorem t_word_ways_6 : FunOk Go.Proofs.Tryz.prog (drawsOf Go.Proofs.Tryz.prog) 227 a_word_ways_6 := ⟨_, k_word_ways_6, Go.Proofs.Tryz.func227, by kernel_rfl, c_word_ways_6⟩
theorem t_word_ways_7 : FunOk Go.Proofs.Tryz.prog (drawsOf Go.Proofs.Tryz.prog) 228 a_word_ways_7 := ⟨_, k_word_ways_7, Go.Proofs.Tryz.func228, by kernel_rfl, c_word_ways_7⟩
theorem t_word_ways_8 : FunOk Go.Proofs.Tryz.prog (drawsOf Go.Proofs.Tryz.prog) 229 a_word_ways_8 := ⟨_, k_word_ways_8, Go.Proofs.Tryz.func229, by kernel_rfl, c_word_ways_8⟩
theorem t_word_one : FunOk Go.Proofs.Tryz.prog (drawsOf Go.Proofs.Tryz.prog) 230 a_word_one := ⟨_, k_word_one, Go.Proofs.Tryz.func230, by kernel_rfl, c_word_one⟩
theorem t_word_ways_9 : FunOk Go.Proofs.Tryz.prog (drawsOf Go.Proofs.Tryz.prog) 231 a_word_ways_9 := ⟨_, k_word_ways_9, Go.Proofs.Tryz.func231, by kernel_rfl, c_word_ways_9⟩
theorem t_word_ways_10 : FunOk Go.Proofs.Tryz.prog (drawsOf Go.Proofs.Tryz.prog) 232 a_word_ways_10 := ⟨_, k_word_ways_10, Go.Proofs.Tryz.func232, by kernel_rfl, c_word_ways_10⟩
theorem t_word_ways_11 : FunOk Go.Proofs.Tryz.prog (drawsOf Go.Proofs.Tryz.prog) 233 a_word_ways_11 := ⟨_, k_word_ways_11, Go.Proofs.Tryz.func233, by kernel_rfl, c_word_ways_11⟩
theorem t_word_ways_12 : FunOk Go.Proofs.Tryz.prog (drawsOf Go.Proofs.Tryz.prog) 234 a_word_ways_12 := ⟨_, k_word_ways_12, Go.Proofs.Tryz.func234, by kernel_rfl, c_word_ways_12⟩
theorem t_word_Signed : FunOk Go.Proofs.Tryz.prog (drawsOf Go.Proofs.Tryz.prog) 235 a_word_Signed := ⟨_, k_word_Signed, Go.Proofs.Tryz.func235, by kernel_rfl, c_word_Signed⟩
theorem tab_ok : RowsOk (FunOk Go.Proofs.Tryz.prog (drawsOf Go.Proofs.Tryz.prog)) 0 tab :=
  ⟨⟨t_locksteplaw13_EvalLanes, trivial⟩,
  ⟨t_locksteplaw13_awake, t_mem_New, t_eval_Run, t_lockstepref11_Check, trivial⟩,
  ⟨t_lockstepref02_Ints, t_check_Check, t_word_Cut, t_eval_machine_run, t_lockstepref01_May, t_lockstepref01_Cut, t_lockstepref04_May, trivial⟩,
  ⟨t_lockstepref11_shape, t_lockstepref11_typed, t_lockstepref11_Defs, t_lockstepref03_Value, t_lockstepref11_Find, t_lockstepref11_Uses, t_lockstepref06_Of, t_lockstepref07_Tree, t_lockstepref07_Meet, t_kind_Shape, trivial⟩,
  ⟨t_slices_ContainsFunc_int, t_check_look, t_word_May, t_eval_machine_all, t_eval_machine_phis, t_eval_machine_step, trivial⟩,
  ⟨t_eval_machine_next, t_lockstepref04_list, t_lockstepref04_num, t_lockstepref04_Size, t_lockstepref06_Reach, t_lockstepref03_May, t_lockstepref03_Gives, t_lockstepref03_Takes, t_lockstepref06_Has, t_lockstepref06_Make, t_lockstepref06_May, t_lockstepref07_Right, t_lockstepref07_Path, t_slices_IndexFunc_int, trivial⟩,
  ⟨t_slices_Equal_int, t_code_May, t_check_checker_shape, t_check_checker_typed, t_check_checker_defined, t_check_checker_shapes, trivial⟩,
  ⟨t_check_checker_places, t_eval_machine_ways, t_eval_machine_guarded, t_lockstepref03_Shape, t_lockstepref03_Args, t_lockstepref03_Fits, t_lockstepref06_Same, t_code_Size, t_code_in, t_slices_ContainsFunc_Block, t_code_May_1, trivial⟩,
  ⟨t_code_mayBlock, t_graph_Of, t_dom_Tree, t_dom_Over, t_check_checker_typed_1, t_slices_ContainsFunc_Phi, t_check_checker_typed_2, t_slices_ContainsFunc_Op, t_check_checker_typed_3, t_check_checker_of, t_check_checker_put, t_check_scalar, t_kind_Gives, t_check_checker_uses, t_check_checker_defined_1, trivial⟩,
  ⟨t_check_checker_shapes_1, t_check_checker_places_1, t_eval_machine_constant, t_eval_machine_choose, t_eval_machine_width, t_eval_machine_load, t_eval_machine_store, t_eval_machine_pack, t_eval_machine_get, t_eval_machine_two, t_eval_machine_guarded_1, t_eval_machine_one, t_code_in_1, t_slices_IndexFunc_Block, trivial⟩,
  ⟨t_code_lists, t_graph_goes, t_graph_Of_1, t_slices_Values_int, t_graph_Make, t_graph_Order, t_slices_Repeat_int, t_dom_meet, t_dom_in, t_dom_Meet, t_slices_IndexFunc_Phi, trivial⟩,
  ⟨t_slices_IndexFunc_Op, t_kind_May, t_kind_stores, t_kind_Takes, t_eval_same, t_mem_Mem_Read, t_mem_Mem_Write, t_word_Do, trivial⟩,
  ⟨t_slices_Values_int_int__1, t_slices_ContainsFunc_sint, t_graph_Make_1, t_graph_rising, t_graph_preds, t_graph_May, t_slices_Reverse_int, t_bits_Mul, t_dom_right, t_dom_in_1, t_dom_depth, t_kind_takes, t_kind_value, t_kind_May_1, t_mem_may, trivial⟩,
  ⟨t_mem_Mem_There, t_word_Two, t_word_ways, t_slices_IndexFunc_sint, t_slices_EqualFunc_sint, t_bits_Mul32, t_bits_Mul64, t_kind_row, t_slices_Repeat_2int, t_word_ways_1, t_word_ways_2, trivial⟩,
  ⟨t_word_ways_3, t_word_ways_4, t_word_ways_5, t_word_ways_6, t_word_ways_7, t_word_ways_8, t_word_one, t_word_ways_9, t_word_ways_10, t_word_ways_11, t_word_ways_12, t_word_Signed, trivial⟩, trivial⟩
theorem T_ok : TabOk Go.Proofs.Tryz.prog (drawsOf Go.Proofs.Tryz.prog) T := by
  refine tabOk_if ?_ (tabOk_if ?_ (tabOk_if ?_ (tabOk_if ?_ (tabOk_of tab_ok))))
  · exact fun args σ v σ' h => bytesG_ext (draws_ok (by kernel_rfl)) Go.Proofs.Tryz.func39 (by kernel_rfl) (by kernel_rfl) (by kernel_rfl) args σ v σ' h
  · exact Go.Proofs.Tryz.ext_compact
  · exact fun args σ v σ' h => cloneG_ext (draws_ok (by kernel_rfl)) Go.Proofs.Tryz.func68 (by kernel_rfl) (by kernel_rfl) args σ v σ' h
  · exact Go.Proofs.Tryz.ext_sorted
end AC
