/- That the table stands for the loaded program. Printed by a program. -/
import Derived.Test.YtafckkajjloleaaGreatTable
import Derived.Test.YtafckkajjloleaaGreatSortC
import Derived.Test.YtafckkajjloleaaGreatCloneB
set_option linter.unusedVariables false
set_option linter.unusedSimpArgs false
namespace AC
open Go.A Go.A.Lex
theorem t_locksteplaw19_SchedFree : FunOk Go.Proofs.Tryz.prog (drawsOf Go.Proofs.Tryz.prog) 7 a_locksteplaw19_SchedFree := ⟨_, k_locksteplaw19_SchedFree, Go.Proofs.Tryz.func7, by kernel_rfl, c_locksteplaw19_SchedFree⟩
theorem t_locksteplaw19_awake : FunOk Go.Proofs.Tryz.prog (drawsOf Go.Proofs.Tryz.prog) 13 a_locksteplaw19_awake := ⟨_, k_locksteplaw19_awake, Go.Proofs.Tryz.func13, by kernel_rfl, c_locksteplaw19_awake⟩
theorem t_sched_Put : FunOk Go.Proofs.Tryz.prog (drawsOf Go.Proofs.Tryz.prog) 15 a_sched_Put := ⟨_, k_sched_Put, Go.Proofs.Tryz.func15, by kernel_rfl, c_sched_Put⟩
theorem t_sched_Legal : FunOk Go.Proofs.Tryz.prog (drawsOf Go.Proofs.Tryz.prog) 18 a_sched_Legal := ⟨_, k_sched_Legal, Go.Proofs.Tryz.func18, by kernel_rfl, c_sched_Legal⟩
theorem t_lockstepref02_Ints : FunOk Go.Proofs.Tryz.prog (drawsOf Go.Proofs.Tryz.prog) 20 a_lockstepref02_Ints := ⟨_, k_lockstepref02_Ints, Go.Proofs.Tryz.func20, by kernel_rfl, c_lockstepref02_Ints⟩
theorem t_sched_Hangs : FunOk Go.Proofs.Tryz.prog (drawsOf Go.Proofs.Tryz.prog) 21 a_sched_Hangs := ⟨_, k_sched_Hangs, Go.Proofs.Tryz.func21, by kernel_rfl, c_sched_Hangs⟩
theorem t_sched_Flat : FunOk Go.Proofs.Tryz.prog (drawsOf Go.Proofs.Tryz.prog) 23 a_sched_Flat := ⟨_, k_sched_Flat, Go.Proofs.Tryz.func23, by kernel_rfl, c_sched_Flat⟩
theorem t_sched_Depth : FunOk Go.Proofs.Tryz.prog (drawsOf Go.Proofs.Tryz.prog) 25 a_sched_Depth := ⟨_, k_sched_Depth, Go.Proofs.Tryz.func25, by kernel_rfl, c_sched_Depth⟩
theorem t_sched_right : FunOk Go.Proofs.Tryz.prog (drawsOf Go.Proofs.Tryz.prog) 44 a_sched_right := ⟨_, k_sched_right, Go.Proofs.Tryz.func44, by kernel_rfl, c_sched_right⟩
theorem t_sched_legal : FunOk Go.Proofs.Tryz.prog (drawsOf Go.Proofs.Tryz.prog) 45 a_sched_legal := ⟨_, k_sched_legal, Go.Proofs.Tryz.func45, by kernel_rfl, c_sched_legal⟩
theorem t_sched_hangs : FunOk Go.Proofs.Tryz.prog (drawsOf Go.Proofs.Tryz.prog) 47 a_sched_hangs := ⟨_, k_sched_hangs, Go.Proofs.Tryz.func47, by kernel_rfl, c_sched_hangs⟩
theorem t_kind_Pure : FunOk Go.Proofs.Tryz.prog (drawsOf Go.Proofs.Tryz.prog) 48 a_kind_Pure := ⟨_, k_kind_Pure, Go.Proofs.Tryz.func48, by kernel_rfl, c_kind_Pure⟩
theorem t_sched_stands : FunOk Go.Proofs.Tryz.prog (drawsOf Go.Proofs.Tryz.prog) 49 a_sched_stands := ⟨_, k_sched_stands, Go.Proofs.Tryz.func49, by kernel_rfl, c_sched_stands⟩
theorem t_check_Shapes : FunOk Go.Proofs.Tryz.prog (drawsOf Go.Proofs.Tryz.prog) 68 a_check_Shapes := ⟨_, k_check_Shapes, Go.Proofs.Tryz.func68, by kernel_rfl, c_check_Shapes⟩
theorem t_check_Check : FunOk Go.Proofs.Tryz.prog (drawsOf Go.Proofs.Tryz.prog) 72 a_check_Check := ⟨_, k_check_Check, Go.Proofs.Tryz.func72, by kernel_rfl, c_check_Check⟩
theorem t_slices_ContainsFunc_int : FunOk Go.Proofs.Tryz.prog (drawsOf Go.Proofs.Tryz.prog) 75 a_slices_ContainsFunc_int := ⟨_, k_slices_ContainsFunc_int, Go.Proofs.Tryz.func75, by kernel_rfl, c_slices_ContainsFunc_int⟩
theorem t_sched_stands_1 : FunOk Go.Proofs.Tryz.prog (drawsOf Go.Proofs.Tryz.prog) 76 a_sched_stands_1 := ⟨_, k_sched_stands_1, Go.Proofs.Tryz.func76, by kernel_rfl, c_sched_stands_1⟩
theorem t_check_look : FunOk Go.Proofs.Tryz.prog (drawsOf Go.Proofs.Tryz.prog) 91 a_check_look := ⟨_, k_check_look, Go.Proofs.Tryz.func91, by kernel_rfl, c_check_look⟩
theorem t_slices_IndexFunc_int : FunOk Go.Proofs.Tryz.prog (drawsOf Go.Proofs.Tryz.prog) 96 a_slices_IndexFunc_int := ⟨_, k_slices_IndexFunc_int, Go.Proofs.Tryz.func96, by kernel_rfl, c_slices_IndexFunc_int⟩
theorem t_code_May : FunOk Go.Proofs.Tryz.prog (drawsOf Go.Proofs.Tryz.prog) 102 a_code_May := ⟨_, k_code_May, Go.Proofs.Tryz.func102, by kernel_rfl, c_code_May⟩
theorem t_check_checker_shape : FunOk Go.Proofs.Tryz.prog (drawsOf Go.Proofs.Tryz.prog) 103 a_check_checker_shape := ⟨_, k_check_checker_shape, Go.Proofs.Tryz.func103, by kernel_rfl, c_check_checker_shape⟩
theorem t_check_checker_typed : FunOk Go.Proofs.Tryz.prog (drawsOf Go.Proofs.Tryz.prog) 104 a_check_checker_typed := ⟨_, k_check_checker_typed, Go.Proofs.Tryz.func104, by kernel_rfl, c_check_checker_typed⟩
theorem t_check_checker_defined : FunOk Go.Proofs.Tryz.prog (drawsOf Go.Proofs.Tryz.prog) 105 a_check_checker_defined := ⟨_, k_check_checker_defined, Go.Proofs.Tryz.func105, by kernel_rfl, c_check_checker_defined⟩
theorem t_check_checker_shapes : FunOk Go.Proofs.Tryz.prog (drawsOf Go.Proofs.Tryz.prog) 106 a_check_checker_shapes := ⟨_, k_check_checker_shapes, Go.Proofs.Tryz.func106, by kernel_rfl, c_check_checker_shapes⟩
theorem t_check_checker_places : FunOk Go.Proofs.Tryz.prog (drawsOf Go.Proofs.Tryz.prog) 107 a_check_checker_places := ⟨_, k_check_checker_places, Go.Proofs.Tryz.func107, by kernel_rfl, c_check_checker_places⟩
theorem t_code_Size : FunOk Go.Proofs.Tryz.prog (drawsOf Go.Proofs.Tryz.prog) 120 a_code_Size := ⟨_, k_code_Size, Go.Proofs.Tryz.func120, by kernel_rfl, c_code_Size⟩
theorem t_code_in : FunOk Go.Proofs.Tryz.prog (drawsOf Go.Proofs.Tryz.prog) 121 a_code_in := ⟨_, k_code_in, Go.Proofs.Tryz.func121, by kernel_rfl, c_code_in⟩
theorem t_slices_ContainsFunc_Block : FunOk Go.Proofs.Tryz.prog (drawsOf Go.Proofs.Tryz.prog) 122 a_slices_ContainsFunc_Block := ⟨_, k_slices_ContainsFunc_Block, Go.Proofs.Tryz.func122, by kernel_rfl, c_slices_ContainsFunc_Block⟩
theorem t_code_May_1 : FunOk Go.Proofs.Tryz.prog (drawsOf Go.Proofs.Tryz.prog) 123 a_code_May_1 := ⟨_, k_code_May_1, Go.Proofs.Tryz.func123, by kernel_rfl, c_code_May_1⟩
theorem t_code_mayBlock : FunOk Go.Proofs.Tryz.prog (drawsOf Go.Proofs.Tryz.prog) 124 a_code_mayBlock := ⟨_, k_code_mayBlock, Go.Proofs.Tryz.func124, by kernel_rfl, c_code_mayBlock⟩
theorem t_graph_Of : FunOk Go.Proofs.Tryz.prog (drawsOf Go.Proofs.Tryz.prog) 125 a_graph_Of := ⟨_, k_graph_Of, Go.Proofs.Tryz.func125, by kernel_rfl, c_graph_Of⟩
theorem t_dom_Tree : FunOk Go.Proofs.Tryz.prog (drawsOf Go.Proofs.Tryz.prog) 126 a_dom_Tree := ⟨_, k_dom_Tree, Go.Proofs.Tryz.func126, by kernel_rfl, c_dom_Tree⟩
theorem t_dom_Over : FunOk Go.Proofs.Tryz.prog (drawsOf Go.Proofs.Tryz.prog) 127 a_dom_Over := ⟨_, k_dom_Over, Go.Proofs.Tryz.func127, by kernel_rfl, c_dom_Over⟩
theorem t_slices_Equal_int : FunOk Go.Proofs.Tryz.prog (drawsOf Go.Proofs.Tryz.prog) 128 a_slices_Equal_int := ⟨_, k_slices_Equal_int, Go.Proofs.Tryz.func128, by kernel_rfl, c_slices_Equal_int⟩
theorem t_word_May : FunOk Go.Proofs.Tryz.prog (drawsOf Go.Proofs.Tryz.prog) 129 a_word_May := ⟨_, k_word_May, Go.Proofs.Tryz.func129, by kernel_rfl, c_word_May⟩
theorem t_check_checker_typed_1 : FunOk Go.Proofs.Tryz.prog (drawsOf Go.Proofs.Tryz.prog) 130 a_check_checker_typed_1 := ⟨_, k_check_checker_typed_1, Go.Proofs.Tryz.func130, by kernel_rfl, c_check_checker_typed_1⟩
theorem t_slices_ContainsFunc_Phi : FunOk Go.Proofs.Tryz.prog (drawsOf Go.Proofs.Tryz.prog) 131 a_slices_ContainsFunc_Phi := ⟨_, k_slices_ContainsFunc_Phi, Go.Proofs.Tryz.func131, by kernel_rfl, c_slices_ContainsFunc_Phi⟩
theorem t_check_checker_typed_2 : FunOk Go.Proofs.Tryz.prog (drawsOf Go.Proofs.Tryz.prog) 132 a_check_checker_typed_2 := ⟨_, k_check_checker_typed_2, Go.Proofs.Tryz.func132, by kernel_rfl, c_check_checker_typed_2⟩
theorem t_slices_ContainsFunc_Op : FunOk Go.Proofs.Tryz.prog (drawsOf Go.Proofs.Tryz.prog) 133 a_slices_ContainsFunc_Op := ⟨_, k_slices_ContainsFunc_Op, Go.Proofs.Tryz.func133, by kernel_rfl, c_slices_ContainsFunc_Op⟩
theorem t_check_checker_typed_3 : FunOk Go.Proofs.Tryz.prog (drawsOf Go.Proofs.Tryz.prog) 134 a_check_checker_typed_3 := ⟨_, k_check_checker_typed_3, Go.Proofs.Tryz.func134, by kernel_rfl, c_check_checker_typed_3⟩
theorem t_check_checker_of : FunOk Go.Proofs.Tryz.prog (drawsOf Go.Proofs.Tryz.prog) 135 a_check_checker_of := ⟨_, k_check_checker_of, Go.Proofs.Tryz.func135, by kernel_rfl, c_check_checker_of⟩
theorem t_check_checker_put : FunOk Go.Proofs.Tryz.prog (drawsOf Go.Proofs.Tryz.prog) 136 a_check_checker_put := ⟨_, k_check_checker_put, Go.Proofs.Tryz.func136, by kernel_rfl, c_check_checker_put⟩
theorem t_check_scalar : FunOk Go.Proofs.Tryz.prog (drawsOf Go.Proofs.Tryz.prog) 137 a_check_scalar := ⟨_, k_check_scalar, Go.Proofs.Tryz.func137, by kernel_rfl, c_check_scalar⟩
theorem t_kind_Gives : FunOk Go.Proofs.Tryz.prog (drawsOf Go.Proofs.Tryz.prog) 138 a_kind_Gives := ⟨_, k_kind_Gives, Go.Proofs.Tryz.func138, by kernel_rfl, c_kind_Gives⟩
theorem t_check_checker_uses : FunOk Go.Proofs.Tryz.prog (drawsOf Go.Proofs.Tryz.prog) 139 a_check_checker_uses := ⟨_, k_check_checker_uses, Go.Proofs.Tryz.func139, by kernel_rfl, c_check_checker_uses⟩
theorem t_check_checker_defined_1 : FunOk Go.Proofs.Tryz.prog (drawsOf Go.Proofs.Tryz.prog) 140 a_check_checker_defined_1 := ⟨_, k_check_checker_defined_1, Go.Proofs.Tryz.func140, by kernel_rfl, c_check_checker_defined_1⟩
theorem t_check_checker_shapes_1 : FunOk Go.Proofs.Tryz.prog (drawsOf Go.Proofs.Tryz.prog) 141 a_check_checker_shapes_1 := ⟨_, k_check_checker_shapes_1, Go.Proofs.Tryz.func141, by kernel_rfl, c_check_checker_shapes_1⟩
theorem t_check_checker_places_1 : FunOk Go.Proofs.Tryz.prog (drawsOf Go.Proofs.Tryz.prog) 142 a_check_checker_places_1 := ⟨_, k_check_checker_places_1, Go.Proofs.Tryz.func142, by kernel_rfl, c_check_checker_places_1⟩
theorem t_code_in_1 : FunOk Go.Proofs.Tryz.prog (drawsOf Go.Proofs.Tryz.prog) 149 a_code_in_1 := ⟨_, k_code_in_1, Go.Proofs.Tryz.func149, by kernel_rfl, c_code_in_1⟩
theorem t_slices_IndexFunc_Block : FunOk Go.Proofs.Tryz.prog (drawsOf Go.Proofs.Tryz.prog) 150 a_slices_IndexFunc_Block := ⟨_, k_slices_IndexFunc_Block, Go.Proofs.Tryz.func150, by kernel_rfl, c_slices_IndexFunc_Block⟩
theorem t_code_lists : FunOk Go.Proofs.Tryz.prog (drawsOf Go.Proofs.Tryz.prog) 151 a_code_lists := ⟨_, k_code_lists, Go.Proofs.Tryz.func151, by kernel_rfl, c_code_lists⟩
theorem t_graph_goes : FunOk Go.Proofs.Tryz.prog (drawsOf Go.Proofs.Tryz.prog) 152 a_graph_goes := ⟨_, k_graph_goes, Go.Proofs.Tryz.func152, by kernel_rfl, c_graph_goes⟩
theorem t_graph_Of_1 : FunOk Go.Proofs.Tryz.prog (drawsOf Go.Proofs.Tryz.prog) 153 a_graph_Of_1 := ⟨_, k_graph_Of_1, Go.Proofs.Tryz.func153, by kernel_rfl, c_graph_Of_1⟩
theorem t_slices_Values_int : FunOk Go.Proofs.Tryz.prog (drawsOf Go.Proofs.Tryz.prog) 155 a_slices_Values_int := ⟨_, k_slices_Values_int, Go.Proofs.Tryz.func155, by kernel_rfl, c_slices_Values_int⟩
theorem t_graph_Make : FunOk Go.Proofs.Tryz.prog (drawsOf Go.Proofs.Tryz.prog) 156 a_graph_Make := ⟨_, k_graph_Make, Go.Proofs.Tryz.func156, by kernel_rfl, c_graph_Make⟩
theorem t_graph_Order : FunOk Go.Proofs.Tryz.prog (drawsOf Go.Proofs.Tryz.prog) 157 a_graph_Order := ⟨_, k_graph_Order, Go.Proofs.Tryz.func157, by kernel_rfl, c_graph_Order⟩
theorem t_slices_Repeat_int : FunOk Go.Proofs.Tryz.prog (drawsOf Go.Proofs.Tryz.prog) 158 a_slices_Repeat_int := ⟨_, k_slices_Repeat_int, Go.Proofs.Tryz.func158, by kernel_rfl, c_slices_Repeat_int⟩
theorem t_dom_meet : FunOk Go.Proofs.Tryz.prog (drawsOf Go.Proofs.Tryz.prog) 159 a_dom_meet := ⟨_, k_dom_meet, Go.Proofs.Tryz.func159, by kernel_rfl, c_dom_meet⟩
theorem t_dom_in : FunOk Go.Proofs.Tryz.prog (drawsOf Go.Proofs.Tryz.prog) 160 a_dom_in := ⟨_, k_dom_in, Go.Proofs.Tryz.func160, by kernel_rfl, c_dom_in⟩
theorem t_dom_Meet : FunOk Go.Proofs.Tryz.prog (drawsOf Go.Proofs.Tryz.prog) 161 a_dom_Meet := ⟨_, k_dom_Meet, Go.Proofs.Tryz.func161, by kernel_rfl, c_dom_Meet⟩
theorem t_slices_IndexFunc_Phi : FunOk Go.Proofs.Tryz.prog (drawsOf Go.Proofs.Tryz.prog) 162 a_slices_IndexFunc_Phi := ⟨_, k_slices_IndexFunc_Phi, Go.Proofs.Tryz.func162, by kernel_rfl, c_slices_IndexFunc_Phi⟩
theorem t_slices_IndexFunc_Op : FunOk Go.Proofs.Tryz.prog (drawsOf Go.Proofs.Tryz.prog) 163 a_slices_IndexFunc_Op := ⟨_, k_slices_IndexFunc_Op, Go.Proofs.Tryz.func163, by kernel_rfl, c_slices_IndexFunc_Op⟩
theorem t_kind_May : FunOk Go.Proofs.Tryz.prog (drawsOf Go.Proofs.Tryz.prog) 164 a_kind_May := ⟨_, k_kind_May, Go.Proofs.Tryz.func164, by kernel_rfl, c_kind_May⟩
theorem t_kind_stores : FunOk Go.Proofs.Tryz.prog (drawsOf Go.Proofs.Tryz.prog) 165 a_kind_stores := ⟨_, k_kind_stores, Go.Proofs.Tryz.func165, by kernel_rfl, c_kind_stores⟩
theorem t_kind_Takes : FunOk Go.Proofs.Tryz.prog (drawsOf Go.Proofs.Tryz.prog) 166 a_kind_Takes := ⟨_, k_kind_Takes, Go.Proofs.Tryz.func166, by kernel_rfl, c_kind_Takes⟩
theorem t_slices_Values_int_int__1 : FunOk Go.Proofs.Tryz.prog (drawsOf Go.Proofs.Tryz.prog) 169 a_slices_Values_int_int__1 := ⟨_, k_slices_Values_int_int__1, Go.Proofs.Tryz.func169, by kernel_rfl, c_slices_Values_int_int__1⟩
theorem t_slices_ContainsFunc_sint : FunOk Go.Proofs.Tryz.prog (drawsOf Go.Proofs.Tryz.prog) 170 a_slices_ContainsFunc_sint := ⟨_, k_slices_ContainsFunc_sint, Go.Proofs.Tryz.func170, by kernel_rfl, c_slices_ContainsFunc_sint⟩
theorem t_graph_Make_1 : FunOk Go.Proofs.Tryz.prog (drawsOf Go.Proofs.Tryz.prog) 171 a_graph_Make_1 := ⟨_, k_graph_Make_1, Go.Proofs.Tryz.func171, by kernel_rfl, c_graph_Make_1⟩
theorem t_graph_rising : FunOk Go.Proofs.Tryz.prog (drawsOf Go.Proofs.Tryz.prog) 172 a_graph_rising := ⟨_, k_graph_rising, Go.Proofs.Tryz.func172, by kernel_rfl, c_graph_rising⟩
theorem t_graph_preds : FunOk Go.Proofs.Tryz.prog (drawsOf Go.Proofs.Tryz.prog) 174 a_graph_preds := ⟨_, k_graph_preds, Go.Proofs.Tryz.func174, by kernel_rfl, c_graph_preds⟩
theorem t_graph_May : FunOk Go.Proofs.Tryz.prog (drawsOf Go.Proofs.Tryz.prog) 175 a_graph_May := ⟨_, k_graph_May, Go.Proofs.Tryz.func175, by kernel_rfl, c_graph_May⟩
theorem t_slices_Reverse_int : FunOk Go.Proofs.Tryz.prog (drawsOf Go.Proofs.Tryz.prog) 176 a_slices_Reverse_int := ⟨_, k_slices_Reverse_int, Go.Proofs.Tryz.func176, by kernel_rfl, c_slices_Reverse_int⟩
theorem t_bits_Mul : FunOk Go.Proofs.Tryz.prog (drawsOf Go.Proofs.Tryz.prog) 177 a_bits_Mul := ⟨_, k_bits_Mul, Go.Proofs.Tryz.func177, by kernel_rfl, c_bits_Mul⟩
theorem t_dom_right : FunOk Go.Proofs.Tryz.prog (drawsOf Go.Proofs.Tryz.prog) 178 a_dom_right := ⟨_, k_dom_right, Go.Proofs.Tryz.func178, by kernel_rfl, c_dom_right⟩
theorem t_dom_in_1 : FunOk Go.Proofs.Tryz.prog (drawsOf Go.Proofs.Tryz.prog) 179 a_dom_in_1 := ⟨_, k_dom_in_1, Go.Proofs.Tryz.func179, by kernel_rfl, c_dom_in_1⟩
theorem t_dom_depth : FunOk Go.Proofs.Tryz.prog (drawsOf Go.Proofs.Tryz.prog) 180 a_dom_depth := ⟨_, k_dom_depth, Go.Proofs.Tryz.func180, by kernel_rfl, c_dom_depth⟩
theorem t_kind_Shape : FunOk Go.Proofs.Tryz.prog (drawsOf Go.Proofs.Tryz.prog) 181 a_kind_Shape := ⟨_, k_kind_Shape, Go.Proofs.Tryz.func181, by kernel_rfl, c_kind_Shape⟩
theorem t_kind_takes : FunOk Go.Proofs.Tryz.prog (drawsOf Go.Proofs.Tryz.prog) 182 a_kind_takes := ⟨_, k_kind_takes, Go.Proofs.Tryz.func182, by kernel_rfl, c_kind_takes⟩
theorem t_kind_value : FunOk Go.Proofs.Tryz.prog (drawsOf Go.Proofs.Tryz.prog) 183 a_kind_value := ⟨_, k_kind_value, Go.Proofs.Tryz.func183, by kernel_rfl, c_kind_value⟩
theorem t_kind_May_1 : FunOk Go.Proofs.Tryz.prog (drawsOf Go.Proofs.Tryz.prog) 184 a_kind_May_1 := ⟨_, k_kind_May_1, Go.Proofs.Tryz.func184, by kernel_rfl, c_kind_May_1⟩
theorem t_slices_IndexFunc_sint : FunOk Go.Proofs.Tryz.prog (drawsOf Go.Proofs.Tryz.prog) 186 a_slices_IndexFunc_sint := ⟨_, k_slices_IndexFunc_sint, Go.Proofs.Tryz.func186, by kernel_rfl, c_slices_IndexFunc_sint⟩
theorem t_slices_EqualFunc_sint : FunOk Go.Proofs.Tryz.prog (drawsOf Go.Proofs.Tryz.prog) 187 a_slices_EqualFunc_sint := ⟨_, k_slices_EqualFunc_sint, Go.Proofs.Tryz.func187, by kernel_rfl, c_slices_EqualFunc_sint⟩
theorem t_bits_Mul32 : FunOk Go.Proofs.Tryz.prog (drawsOf Go.Proofs.Tryz.prog) 188 a_bits_Mul32 := ⟨_, k_bits_Mul32, Go.Proofs.Tryz.func188, by kernel_rfl, c_bits_Mul32⟩
theorem t_bits_Mul64 : FunOk Go.Proofs.Tryz.prog (drawsOf Go.Proofs.Tryz.prog) 189 a_bits_Mul64 := ⟨_, k_bits_Mul64, Go.Proofs.Tryz.func189, by kernel_rfl, c_bits_Mul64⟩
theorem t_word_Cut : FunOk Go.Proofs.Tryz.prog (drawsOf Go.Proofs.Tryz.prog) 190 a_word_Cut := ⟨_, k_word_Cut, Go.Proofs.Tryz.func190, by kernel_rfl, c_word_Cut⟩
theorem t_kind_row : FunOk Go.Proofs.Tryz.prog (drawsOf Go.Proofs.Tryz.prog) 191 a_kind_row := ⟨_, k_kind_row, Go.Proofs.Tryz.func191, by kernel_rfl, c_kind_row⟩
theorem t_slices_Repeat_2int : FunOk Go.Proofs.Tryz.prog (drawsOf Go.Proofs.Tryz.prog) 192 a_slices_Repeat_2int := ⟨_, k_slices_Repeat_2int, Go.Proofs.Tryz.func192, by kernel_rfl, c_slices_Repeat_2int⟩
theorem tab_ok : RowsOk (FunOk Go.Proofs.Tryz.prog (drawsOf Go.Proofs.Tryz.prog)) 0 tab :=
  ⟨⟨t_locksteplaw19_SchedFree, t_locksteplaw19_awake, t_sched_Put, trivial⟩,
  ⟨t_sched_Legal, t_lockstepref02_Ints, t_sched_Hangs, t_sched_Flat, t_sched_Depth, trivial⟩,
  ⟨t_sched_right, t_sched_legal, t_sched_hangs, trivial⟩,
  ⟨t_kind_Pure, t_sched_stands, trivial⟩,
  ⟨t_check_Shapes, t_check_Check, t_slices_ContainsFunc_int, t_sched_stands_1, trivial⟩,
  ⟨t_check_look, trivial⟩,
  ⟨t_slices_IndexFunc_int, t_code_May, t_check_checker_shape, t_check_checker_typed, t_check_checker_defined, t_check_checker_shapes, t_check_checker_places, trivial⟩,
  ⟨t_code_Size, t_code_in, t_slices_ContainsFunc_Block, t_code_May_1, t_code_mayBlock, t_graph_Of, t_dom_Tree, t_dom_Over, trivial⟩,
  ⟨t_slices_Equal_int, t_word_May, t_check_checker_typed_1, t_slices_ContainsFunc_Phi, t_check_checker_typed_2, t_slices_ContainsFunc_Op, t_check_checker_typed_3, t_check_checker_of, t_check_checker_put, t_check_scalar, t_kind_Gives, t_check_checker_uses, t_check_checker_defined_1, t_check_checker_shapes_1, t_check_checker_places_1, trivial⟩,
  ⟨t_code_in_1, t_slices_IndexFunc_Block, t_code_lists, t_graph_goes, t_graph_Of_1, t_slices_Values_int, t_graph_Make, t_graph_Order, t_slices_Repeat_int, t_dom_meet, trivial⟩,
  ⟨t_dom_in, t_dom_Meet, t_slices_IndexFunc_Phi, t_slices_IndexFunc_Op, t_kind_May, t_kind_stores, t_kind_Takes, t_slices_Values_int_int__1, t_slices_ContainsFunc_sint, t_graph_Make_1, t_graph_rising, t_graph_preds, t_graph_May, trivial⟩,
  ⟨t_slices_Reverse_int, t_bits_Mul, t_dom_right, t_dom_in_1, t_dom_depth, t_kind_Shape, t_kind_takes, t_kind_value, t_kind_May_1, t_slices_IndexFunc_sint, t_slices_EqualFunc_sint, t_bits_Mul32, t_bits_Mul64, t_word_Cut, t_kind_row, trivial⟩,
  ⟨t_slices_Repeat_2int, trivial⟩, trivial⟩
theorem T_ok : TabOk Go.Proofs.Tryz.prog (drawsOf Go.Proofs.Tryz.prog) T := by
  refine tabOk_if ?_ (tabOk_if ?_ (tabOk_if ?_ (tabOk_if ?_ (tabOk_if ?_ (tabOk_of tab_ok)))))
  · exact Go.Proofs.Tryz.ext_cloneB
  · exact Go.Proofs.Tryz.ext_compact
  · exact fun args σ v σ' h => clone_ext (draws_ok (by kernel_rfl)) Go.Proofs.Tryz.func173 (by kernel_rfl) (by kernel_rfl) args σ v σ' h
  · exact Go.Proofs.Tryz.ext_sort
  · exact Go.Proofs.Tryz.ext_sorted
end AC
