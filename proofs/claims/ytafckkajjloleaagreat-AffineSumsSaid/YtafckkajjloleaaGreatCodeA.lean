/- The machine's code of the functions that are reached, each with the kernel's check that it stands for the loaded one. Printed by a program. -/
import Derived.Test.YtafckkajjloleaaGreatLex
import Derived.Test.YtafckkajjloleaaGreatExt
import Derived.Test.YtafckkajjloleaaGreatClone
import Derived.Test.YtafckkajjloleaaGreatProg
import Derived.KernelRfl
set_option linter.unusedVariables false
set_option linter.unusedSimpArgs false
namespace AC
open Go.A Go.A.Lex
namespace F
abbrev locksteplaw19_SchedTells : Nat := 3
abbrev locksteplaw19_SchedFlat : Nat := 4
abbrev locksteplaw19_SchedDepth : Nat := 5
abbrev locksteplaw19_SchedBack : Nat := 6
abbrev locksteplaw19_SchedFree : Nat := 7
abbrev locksteplaw17_AffineSums : Nat := 8
abbrev locksteplaw17_AffineFinds : Nat := 9
abbrev locksteplaw17_AffineRing : Nat := 10
abbrev locksteplaw17_AffineSteps : Nat := 11
abbrev locksteplaw17_AffineScales : Nat := 12
abbrev locksteplaw19_awake : Nat := 13
abbrev lockstepref11_Small : Nat := 14
abbrev sched_Put : Nat := 15
abbrev lockstepref19_Put : Nat := 16
abbrev lockstepref04_Same : Nat := 17
abbrev sched_Legal : Nat := 18
abbrev lockstepref19_Legal : Nat := 19
abbrev lockstepref02_Ints : Nat := 20
abbrev sched_Hangs : Nat := 21
abbrev lockstepref19_Hangs : Nat := 22
abbrev sched_Flat : Nat := 23
abbrev lockstepref19_Flat : Nat := 24
abbrev sched_Depth : Nat := 25
abbrev lockstepref19_Right : Nat := 26
abbrev lockstepref19_On : Nat := 27
abbrev lockstepref11_Check : Nat := 28
abbrev lockstepref03_Pure : Nat := 29
abbrev locksteplaw17_awake : Nat := 30
abbrev affine_Plus : Nat := 31
abbrev affine_Minus : Nat := 32
abbrev affine_Times : Nat := 33
abbrev affine_May : Nat := 34
abbrev lockstepref17_May : Nat := 35
abbrev affine_Same : Nat := 36
abbrev lockstepref17_Same : Nat := 37
abbrev lockstepref17_Mix : Nat := 38
abbrev affine_Of : Nat := 39
abbrev lockstepref17_Find : Nat := 40
abbrev lockstepref04_Small : Nat := 41
abbrev slices_Clone_Block : Nat := 42
abbrev lockstepref03_Same : Nat := 43
abbrev sched_right : Nat := 44
abbrev sched_legal : Nat := 45
abbrev lockstepref06_Has : Nat := 46
abbrev sched_hangs : Nat := 47
abbrev kind_Pure : Nat := 48
abbrev sched_stands : Nat := 49
abbrev lockstepref04_May : Nat := 50
abbrev lockstepref11_shape : Nat := 51
abbrev lockstepref11_typed : Nat := 52
abbrev lockstepref11_Defs : Nat := 53
abbrev lockstepref03_Value : Nat := 54
abbrev lockstepref11_Find : Nat := 55
abbrev lockstepref11_Uses : Nat := 56
abbrev lockstepref06_Of : Nat := 57
abbrev lockstepref07_Tree : Nat := 58
abbrev lockstepref07_Meet : Nat := 59
abbrev affine_may : Nat := 60
abbrev affine_both : Nat := 61
abbrev affine_Plus_1 : Nat := 62
abbrev affine_Minus_1 : Nat := 63
abbrev affine_Times_1 : Nat := 64
abbrev slices_Equal_Term : Nat := 65
abbrev lockstepref17_Of : Nat := 66
abbrev lockstepref17_Wide_Form : Nat := 67
abbrev check_Shapes : Nat := 68
abbrev affine_finder_form : Nat := 69
abbrev lockstepref17_New : Nat := 70
abbrev lockstepref17_Finder_get : Nat := 71
abbrev check_Check : Nat := 72
abbrev slices_Sort_int : Nat := 73
abbrev slices_Compact_int : Nat := 74
abbrev slices_ContainsFunc_int : Nat := 75
abbrev sched_stands_1 : Nat := 76
abbrev lockstepref04_list : Nat := 77
abbrev lockstepref04_num : Nat := 78
abbrev lockstepref04_Size : Nat := 79
abbrev lockstepref06_Reach : Nat := 80
abbrev lockstepref01_May : Nat := 81
abbrev lockstepref03_May : Nat := 82
abbrev lockstepref03_Gives : Nat := 83
abbrev lockstepref03_Takes : Nat := 84
abbrev lockstepref06_Make : Nat := 85
abbrev lockstepref06_May : Nat := 86
abbrev lockstepref07_Right : Nat := 87
abbrev lockstepref07_Path : Nat := 88
abbrev slices_ContainsFunc_Form : Nat := 89
abbrev affine_may_1 : Nat := 90
abbrev check_look : Nat := 91
abbrev affine_finder_made : Nat := 92
abbrev lockstepref17_Finder_two : Nat := 93
abbrev slices_IndexFunc_int : Nat := 96
abbrev lockstepref03_Shape : Nat := 97
abbrev lockstepref03_Args : Nat := 98
abbrev lockstepref03_Fits : Nat := 99
abbrev lockstepref06_Same : Nat := 100
abbrev slices_IndexFunc_Form : Nat := 101
abbrev code_May : Nat := 102
abbrev check_checker_shape : Nat := 103
abbrev check_checker_typed : Nat := 104
abbrev check_checker_defined : Nat := 105
abbrev check_checker_shapes : Nat := 106
abbrev check_checker_places : Nat := 107
abbrev lockstepref01_Cut : Nat := 119
abbrev code_Size : Nat := 120
abbrev code_in : Nat := 121
abbrev slices_ContainsFunc_Block : Nat := 122
abbrev code_May_1 : Nat := 123
abbrev code_mayBlock : Nat := 124
abbrev graph_Of : Nat := 125
abbrev dom_Tree : Nat := 126
abbrev dom_Over : Nat := 127
abbrev slices_Equal_int : Nat := 128
abbrev word_May : Nat := 129
abbrev check_checker_typed_1 : Nat := 130
abbrev slices_ContainsFunc_Phi : Nat := 131
abbrev check_checker_typed_2 : Nat := 132
abbrev slices_ContainsFunc_Op : Nat := 133
abbrev check_checker_typed_3 : Nat := 134
abbrev check_checker_of : Nat := 135
abbrev check_checker_put : Nat := 136
abbrev check_scalar : Nat := 137
abbrev kind_Gives : Nat := 138
abbrev check_checker_uses : Nat := 139
abbrev check_checker_defined_1 : Nat := 140
abbrev check_checker_shapes_1 : Nat := 141
abbrev check_checker_places_1 : Nat := 142
abbrev code_in_1 : Nat := 149
abbrev slices_IndexFunc_Block : Nat := 150
abbrev code_lists : Nat := 151
abbrev graph_goes : Nat := 152
abbrev graph_Of_1 : Nat := 153
abbrev slices_Sorted_int : Nat := 154
abbrev slices_Values_int : Nat := 155
abbrev graph_Make : Nat := 156
abbrev graph_Order : Nat := 157
abbrev slices_Repeat_int : Nat := 158
abbrev dom_meet : Nat := 159
abbrev dom_in : Nat := 160
abbrev dom_Meet : Nat := 161
abbrev slices_IndexFunc_Phi : Nat := 162
abbrev slices_IndexFunc_Op : Nat := 163
abbrev kind_May : Nat := 164
abbrev kind_stores : Nat := 165
abbrev kind_Takes : Nat := 166
abbrev slices_Values_int_int__1 : Nat := 169
abbrev slices_ContainsFunc_sint : Nat := 170
abbrev graph_Make_1 : Nat := 171
abbrev graph_rising : Nat := 172
abbrev slices_Clone_int : Nat := 173
abbrev graph_preds : Nat := 174
abbrev graph_May : Nat := 175
abbrev slices_Reverse_int : Nat := 176
abbrev bits_Mul : Nat := 177
abbrev dom_right : Nat := 178
abbrev dom_in_1 : Nat := 179
abbrev dom_depth : Nat := 180
abbrev kind_Shape : Nat := 181
abbrev kind_takes : Nat := 182
abbrev kind_value : Nat := 183
abbrev kind_May_1 : Nat := 184
abbrev slices_IndexFunc_sint : Nat := 186
abbrev slices_EqualFunc_sint : Nat := 187
abbrev bits_Mul32 : Nat := 188
abbrev bits_Mul64 : Nat := 189
abbrev word_Cut : Nat := 190
abbrev kind_row : Nat := 191
abbrev slices_Repeat_2int : Nat := 192
end F

def locksteplaw19_SchedTells_b0 : Go.A.Code :=
   (.seq (.seq (.reg [q (.mv (.s 12)), q (.mv (.s 10)), w 19 (.bin .lss (.l 1) (.l 0))])
   (.cond (.s 19) .skip
   (.exit 2 [f,f,t,t,f,f,f,f,f,t,t,t,f,f,f,f,f,f,f,f,f,f] 4)))
   (.seq (.block 3 (.seq (.reg [q (.fa 2 (.s 2)), q (.ld none (.l 0)), q (.fa 0 (.s 3)), q (.ld none (.l 0)), q (.ia 5 (.l 2) (.l 0)), q (.ld (some 5) (.l 0)), q (.mv (.s 10)), q (.mv (.s 12)), w 20 (.call .cl (.c (.one (.fn F.lockstepref19_On [] []))) [(.l 2), (.l 1), (.l 0)])])
   (.cond (.s 20) (.reg [q (.mv (.s 11)), q (.mv (.s 9)), q (.mv (.s 12)), q (.ia 1 (.l 1) (.l 0)), q (.ld none (.l 0)), q (.bin .add (.l 0) (i 1)), q (.mxn true (.l 5) (.l 0)), w 11 (.mv (.l 0))])
   .skip)))
   (.reg [q (.mv (.s 12)), q (.bin .add (.l 0) (i 1)), w 12 (.mv (.l 0))])))
def locksteplaw19_SchedTells_l0 : Go.A.Code := .loop [f,f,t,t,f,f,f,f,f,t,t,t,t,f,f,f,f,f,f,f,f,f] 4 locksteplaw19_SchedTells_b0
theorem locksteplaw19_SchedTells_l0_eq (T : Nat → Option Entry) (s : St) : exec T locksteplaw19_SchedTells_l0 s = (exec T locksteplaw19_SchedTells_b0 s).bind (loopK (exec T locksteplaw19_SchedTells_l0) [f,f,t,t,f,f,f,f,f,t,t,t,t,f,f,f,f,f,f,f,f,f] 4) := exec_loop T s _ _ _
def locksteplaw19_SchedTells_b1 : Go.A.Code :=
   (.seq (.seq (.reg [q (.mv (.s 10)), q (.mv (.s 9)), q (.len (.l 0)), w 18 (.bin .lss (.l 2) (.l 0))])
   (.cond (.s 18) .skip
   (.exit 0 [f,f,f,f,f,f,f,f,f,f,f,f,f,f,f,f,f,f,f,f,f,f] 4)))
   (.seq (.block 1 (.seq (.reg [w 11 (.mv (i 0))])
   (.seq (.seq (.reg [w 12 (.mv (i 0))])
   (.block 2 locksteplaw19_SchedTells_l0))
   (.seq (.reg [q (.mv (.s 9)), q (.mv (.s 10)), q (.ia 1 (.l 1) (.l 0)), q (.ld none (.l 0)), q (.mv (.s 11)), w 21 (.bin .neq (.l 1) (.l 0))])
   (.cond (.s 21) (.seq (.reg [w 4 (.mv (bo false))])
   (.ret [f,f,f,f,t,f,f,f,f,f,f,f,f,f,f,f,f,f,f,f,f,f]))
   .skip)))))
   (.reg [q (.mv (.s 10)), q (.bin .add (.l 0) (i 1)), w 10 (.mv (.l 0))])))
def locksteplaw19_SchedTells_l1 : Go.A.Code := .loop [f,f,t,t,f,f,f,f,f,t,t,f,f,f,f,f,f,f,f,f,f,f] 4 locksteplaw19_SchedTells_b1
theorem locksteplaw19_SchedTells_l1_eq (T : Nat → Option Entry) (s : St) : exec T locksteplaw19_SchedTells_l1 s = (exec T locksteplaw19_SchedTells_b1 s).bind (loopK (exec T locksteplaw19_SchedTells_l1) [f,f,t,t,f,f,f,f,f,t,t,f,f,f,f,f,f,f,f,f,f,f] 4) := exec_loop T s _ _ _
/-- lockstep/locksteplaw19.SchedTells -/
def a_locksteplaw19_SchedTells : Fun := { np := 2, nslots := 22, keep := 0, raw := false, results := [(4, none)], body :=
   (.seq (.reg [w 2 (.box 3 (.s 0)), w 3 (.box 3 (.s 1)), w 4 (.mv (bo false))])
   (.seq (.seq (.reg [q (.call .cl (.c (.one (.fn F.locksteplaw19_awake [] []))) []), w 13 (.un .not (.l 0))])
   (.cond (.s 13) (.seq (.reg [w 4 (.mv (bo false))])
   (.ret [f,f,f,f,t,f,f,f,f,f,f,f,f,f,f,f,f,f,f,f,f,f]))
   .skip))
   (.seq (.seq (.reg [q (.ld (some 3) (.s 2)), q (.call .cl (.c (.one (.fn F.lockstepref11_Small [] []))) [(.l 0)]), q (.un .not (.l 0)), q (.mv (.l 0)), ⟨.loc, .fa 2 (.s 3), (some (.l 0, false))⟩, ⟨.loc, .ld none (.l 0), (some (.l 1, false))⟩, ⟨.loc, .len (.l 0), (some (.l 2, false))⟩, ⟨.loc, .bin .gtr (.l 0) (i 600), (some (.l 3, false))⟩, w 14 (.pick (.l 4) (bo true) (.l 0))])
   (.cond (.s 14) (.seq (.reg [w 4 (.mv (bo true))])
   (.ret [f,f,f,f,t,f,f,f,f,f,f,f,f,f,f,f,f,f,f,f,f,f]))
   .skip))
   (.seq (.reg [q (.ld (some 3) (.s 2)), q (.fa 0 (.s 3)), q (.ld none (.l 0)), q (.fa 2 (.s 3)), q (.ld none (.l 0)), q (.call .cl (.c (.one (.fn F.sched_Put [] []))) [(.l 4), (.l 2), (.l 0)]), q (.mv (.l 0)), q (.ext (.l 0) 0), q (.ext (.l 1) 1), w 5 (.al [.f (.sl []), .f (.lit (.int .i64 0)), .f (.sl [])] []), e (.st 3 (.s 5) (.l 2)), w 6 (.mv (.l 2))])
   (.seq (.reg [q (.ld (some 3) (.s 2)), q (.fa 0 (.s 3)), q (.ld none (.l 0)), q (.fa 2 (.s 3)), q (.ld none (.l 0)), q (.call .cl (.c (.one (.fn F.lockstepref19_Put [] []))) [(.l 4), (.l 2), (.l 0)]), q (.mv (.l 0)), q (.ext (.l 0) 0), q (.ext (.l 1) 1), w 7 (.al [.f (.sl []), .f (.lit (.int .i64 0)), .f (.sl [])] []), e (.st 3 (.s 7) (.l 2)), w 8 (.mv (.l 2))])
   (.seq (.seq (.reg [q (.ld (some 3) (.s 5)), q (.ld (some 3) (.s 7)), q (.call .cl (.c (.one (.fn F.lockstepref04_Same [] []))) [(.l 1), (.l 0)]), q (.un .not (.l 0)), q (.mv (.l 0)), ⟨.loc, .mv (.s 6), (some (.l 0, false))⟩, ⟨.loc, .mv (.s 8), (some (.l 1, false))⟩, ⟨.loc, .bin .neq (.l 1) (.l 0), (some (.l 2, false))⟩, q (.pick (.l 3) (bo true) (.l 0)), q (.mv (.l 0)), ⟨.loc, .ld (some 3) (.s 2), (some (.l 0, false))⟩, ⟨.loc, .fa 0 (.s 3), (some (.l 1, false))⟩, ⟨.loc, .ld none (.l 0), (some (.l 2, false))⟩, ⟨.loc, .fa 2 (.s 3), (some (.l 3, false))⟩, ⟨.loc, .ld none (.l 0), (some (.l 4, false))⟩, ⟨.loc, .call .cl (.c (.one (.fn F.sched_Legal [] []))) [(.l 4), (.l 2), (.l 0)], (some (.l 5, false))⟩, ⟨.loc, .ld (some 3) (.s 2), (some (.l 6, false))⟩, ⟨.loc, .fa 0 (.s 3), (some (.l 7, false))⟩, ⟨.loc, .ld none (.l 0), (some (.l 8, false))⟩, ⟨.loc, .fa 2 (.s 3), (some (.l 9, false))⟩, ⟨.loc, .ld none (.l 0), (some (.l 10, false))⟩, ⟨.loc, .call .cl (.c (.one (.fn F.lockstepref19_Legal [] []))) [(.l 4), (.l 2), (.l 0)], (some (.l 11, false))⟩, ⟨.loc, .beq true (.l 6) (.l 0), (some (.l 12, false))⟩, q (.pick (.l 13) (bo true) (.l 0)), q (.mv (.l 0)), ⟨.loc, .ld (some 3) (.s 2), (some (.l 0, false))⟩, ⟨.loc, .fa 0 (.s 3), (some (.l 1, false))⟩, ⟨.loc, .ld none (.l 0), (some (.l 2, false))⟩, ⟨.loc, .fa 1 (.s 3), (some (.l 3, false))⟩, ⟨.loc, .ld none (.l 0), (some (.l 4, false))⟩, ⟨.loc, .call .cl (.c (.one (.fn F.sched_Hangs [] []))) [(.l 4), (.l 2), (.l 0)], (some (.l 5, false))⟩, ⟨.loc, .ld (some 3) (.s 2), (some (.l 6, false))⟩, ⟨.loc, .fa 0 (.s 3), (some (.l 7, false))⟩, ⟨.loc, .ld none (.l 0), (some (.l 8, false))⟩, ⟨.loc, .fa 1 (.s 3), (some (.l 9, false))⟩, ⟨.loc, .ld none (.l 0), (some (.l 10, false))⟩, ⟨.loc, .call .cl (.c (.one (.fn F.lockstepref19_Hangs [] []))) [(.l 4), (.l 2), (.l 0)], (some (.l 11, false))⟩, ⟨.loc, .call .cl (.c (.one (.fn F.lockstepref02_Ints [] []))) [(.l 6), (.l 0)], (some (.l 12, false))⟩, ⟨.loc, .un .not (.l 0), (some (.l 13, false))⟩, q (.pick (.l 14) (bo true) (.l 0)), q (.mv (.l 0)), ⟨.loc, .ld (some 3) (.s 2), (some (.l 0, false))⟩, ⟨.loc, .fa 0 (.s 3), (some (.l 1, false))⟩, ⟨.loc, .ld none (.l 0), (some (.l 2, false))⟩, ⟨.loc, .call .cl (.c (.one (.fn F.sched_Flat [] []))) [(.l 2), (.l 0)], (some (.l 3, false))⟩, ⟨.loc, .ld (some 3) (.s 2), (some (.l 4, false))⟩, ⟨.loc, .fa 0 (.s 3), (some (.l 5, false))⟩, ⟨.loc, .ld none (.l 0), (some (.l 6, false))⟩, ⟨.loc, .call .cl (.c (.one (.fn F.lockstepref19_Flat [] []))) [(.l 2), (.l 0)], (some (.l 7, false))⟩, ⟨.loc, .call .cl (.c (.one (.fn F.lockstepref02_Ints [] []))) [(.l 4), (.l 0)], (some (.l 8, false))⟩, ⟨.loc, .un .not (.l 0), (some (.l 9, false))⟩, w 15 (.pick (.l 10) (bo true) (.l 0))])
   (.cond (.s 15) (.seq (.reg [w 4 (.mv (bo false))])
   (.ret [f,f,f,f,t,f,f,f,f,f,f,f,f,f,f,f,f,f,f,f,f,f]))
   .skip))
   (.seq (.reg [q (.ld (some 3) (.s 2)), q (.fa 0 (.s 3)), q (.ld none (.l 0)), q (.call .cl (.c (.one (.fn F.sched_Depth [] []))) [(.l 2), (.l 0)]), w 9 (.mv (.l 0))])
   (.seq (.seq (.reg [q (.ld (some 3) (.s 2)), q (.fa 0 (.s 3)), q (.ld none (.l 0)), q (.call .cl (.c (.one (.fn F.lockstepref19_Right [] []))) [(.l 2), (.l 0)]), w 16 (.un .not (.l 0))])
   (.cond (.s 16) (.seq (.reg [q (.mv (.s 9)), q (.len (.l 0)), q (.bin .eql (.l 0) (i 0)), w 4 (.mv (.l 0))])
   (.ret [f,f,f,f,t,f,f,f,f,f,f,f,f,f,f,f,f,f,f,f,f,f]))
   .skip))
   (.seq (.seq (.reg [q (.mv (.s 9)), q (.len (.l 0)), q (.fa 2 (.s 2)), q (.ld none (.l 0)), q (.fa 0 (.s 3)), q (.ld none (.l 0)), q (.ia 5 (.l 2) (.l 0)), q (.fa 1 (.l 0)), q (.ld none (.l 0)), q (.len (.l 0)), w 17 (.bin .neq (.l 8) (.l 0))])
   (.cond (.s 17) (.seq (.reg [w 4 (.mv (bo false))])
   (.ret [f,f,f,f,t,f,f,f,f,f,f,f,f,f,f,f,f,f,f,f,f,f]))
   .skip))
   (.seq (.seq (.reg [w 10 (.mv (i 0))])
   (.block 0 locksteplaw19_SchedTells_l1))
   (.seq (.reg [w 4 (.mv (bo true))])
   (.ret [f,f,f,f,t,f,f,f,f,f,f,f,f,f,f,f,f,f,f,f,f,f])))))))))))) }
def k_locksteplaw19_SchedTells : List Go.Tmp := [0, 1, 2, 3, 4, 5, 6, 7, 8, 9, 10, 11, 12, 14, 23, 93, 102, 116, 120, 125, 136, 149]
theorem c_locksteplaw19_SchedTells : chkFun Go.Proofs.Tryz.prog (drawsOf Go.Proofs.Tryz.prog) k_locksteplaw19_SchedTells Go.Proofs.Tryz.f3 a_locksteplaw19_SchedTells = true := by kernel_rfl

def locksteplaw19_SchedFlat_b0 : Go.A.Code :=
   (.seq (.seq (.reg [q (.mv (.s 7)), q (.mv (.s 5)), q (.len (.l 0)), w 16 (.bin .lss (.l 2) (.l 0))])
   (.cond (.s 16) .skip
   (.exit 0 [f,f,t,t,f,t,t,f,f,f,f,f,f,f,f,f,f,f,f,f,f,f,f] 3)))
   (.seq (.block 1 (.reg [q (.mv (.s 6)), q (.mv (.s 7)), q (.bsl .fz 1 [[.f (.lit (.int .i64 0))]] [(0, (.l 0))]), q (.app 1 (.l 2) (.l 0)), w 6 (.mv (.l 0))]))
   (.reg [q (.mv (.s 7)), q (.bin .add (.l 0) (i 1)), w 7 (.mv (.l 0))])))
def locksteplaw19_SchedFlat_l0 : Go.A.Code := .loop [f,f,t,t,f,t,t,t,f,f,f,f,f,f,f,f,f,f,f,f,f,f,f] 3 locksteplaw19_SchedFlat_b0
theorem locksteplaw19_SchedFlat_l0_eq (T : Nat → Option Entry) (s : St) : exec T locksteplaw19_SchedFlat_l0 s = (exec T locksteplaw19_SchedFlat_b0 s).bind (loopK (exec T locksteplaw19_SchedFlat_l0) [f,f,t,t,f,t,t,t,f,f,f,f,f,f,f,f,f,f,f,f,f,f,f] 3) := exec_loop T s _ _ _
def locksteplaw19_SchedFlat_b1 : Go.A.Code :=
   (.seq (.seq (.reg [q (.mv (.s 10)), q (.fa 2 (.s 3)), q (.ld none (.l 0)), q (.len (.l 0)), w 19 (.bin .lss (.l 3) (.l 0))])
   (.cond (.s 19) .skip
   (.exit 2 [f,f,t,t,f,t,t,f,f,f,f,f,f,f,f,f,f,f,f,f,f,f,f] 3)))
   (.seq (.block 3 (.seq (.reg [q (.fa 2 (.s 3)), q (.ld none (.l 0)), q (.mv (.s 10)), q (.ia 1 (.l 1) (.l 0)), q (.ld none (.l 0)), w 11 (.mv (.l 0))])
   (.seq (.seq (.reg [q (.mv (.s 11)), q (.bin .lss (.l 0) (i 0)), q (.mv (.l 0)), ⟨.loc, .mv (.s 11), (some (.l 0, false))⟩, ⟨.loc, .mv (.s 5), (some (.l 1, false))⟩, ⟨.loc, .len (.l 0), (some (.l 2, false))⟩, ⟨.loc, .bin .geq (.l 2) (.l 0), (some (.l 3, false))⟩, w 20 (.pick (.l 4) (bo true) (.l 0))])
   (.cond (.s 20) (.seq (.reg [w 4 (.mv (bo false))])
   (.ret [f,f,f,f,t,f,f,f,f,f,f,f,f,f,f,f,f,f,f,f,f,f,f]))
   .skip))
   (.seq (.seq (.reg [q (.mv (.s 5)), q (.mv (.s 11)), q (.ia 6 (.l 1) (.l 0)), q (.fa 0 (.l 0)), q (.ld none (.l 0)), w 21 (.call .cl (.c (.one (.fn F.lockstepref03_Pure [] []))) [(.l 0)])])
   (.cond (.s 21) (.exit 3 [f,f,t,t,f,t,t,f,f,t,t,f,f,f,f,f,f,f,f,f,f,f,f] 3)
   .skip))
   (.seq (.seq (.reg [q (.mv (.s 11)), q (.mv (.s 9)), w 22 (.bin .lss (.l 1) (.l 0))])
   (.cond (.s 22) (.seq (.reg [w 4 (.mv (bo false))])
   (.ret [f,f,f,f,t,f,f,f,f,f,f,f,f,f,f,f,f,f,f,f,f,f,f]))
   .skip))
   (.reg [q (.mv (.s 11)), w 9 (.mv (.l 0))]))))))
   (.reg [q (.mv (.s 10)), q (.bin .add (.l 0) (i 1)), w 10 (.mv (.l 0))])))
def locksteplaw19_SchedFlat_l1 : Go.A.Code := .loop [f,f,t,t,f,t,t,f,f,t,t,f,f,f,f,f,f,f,f,f,f,f,f] 3 locksteplaw19_SchedFlat_b1
theorem locksteplaw19_SchedFlat_l1_eq (T : Nat → Option Entry) (s : St) : exec T locksteplaw19_SchedFlat_l1 s = (exec T locksteplaw19_SchedFlat_b1 s).bind (loopK (exec T locksteplaw19_SchedFlat_l1) [f,f,t,t,f,t,t,f,f,t,t,f,f,f,f,f,f,f,f,f,f,f,f] 3) := exec_loop T s _ _ _
/-- lockstep/locksteplaw19.SchedFlat -/
def a_locksteplaw19_SchedFlat : Fun := { np := 2, nslots := 23, keep := 0, raw := false, results := [(4, none)], body :=
   (.seq (.reg [w 2 (.box 3 (.s 0)), w 3 (.box 3 (.s 1)), w 4 (.mv (bo false))])
   (.seq (.seq (.reg [q (.call .cl (.c (.one (.fn F.locksteplaw19_awake [] []))) []), w 14 (.un .not (.l 0))])
   (.cond (.s 14) (.seq (.reg [w 4 (.mv (bo false))])
   (.ret [f,f,f,f,t,f,f,f,f,f,f,f,f,f,f,f,f,f,f,f,f,f,f]))
   .skip))
   (.seq (.seq (.reg [q (.ld (some 3) (.s 2)), q (.call .cl (.c (.one (.fn F.lockstepref11_Small [] []))) [(.l 0)]), q (.un .not (.l 0)), q (.mv (.l 0)), ⟨.loc, .fa 2 (.s 3), (some (.l 0, false))⟩, ⟨.loc, .ld none (.l 0), (some (.l 1, false))⟩, ⟨.loc, .len (.l 0), (some (.l 2, false))⟩, ⟨.loc, .bin .gtr (.l 0) (i 600), (some (.l 3, false))⟩, q (.pick (.l 4) (bo true) (.l 0)), q (.mv (.l 0)), ⟨.loc, .ld (some 3) (.s 2), (some (.l 0, false))⟩, ⟨.loc, .call .cl (.c (.one (.fn F.lockstepref11_Check [] []))) [(.l 0), (i 2)], (some (.l 1, false))⟩, ⟨.loc, .bin .neq (.l 0) (i 0), (some (.l 2, false))⟩, q (.pick (.l 3) (bo true) (.l 0)), q (.mv (.l 0)), ⟨.loc, .fa 0 (.s 3), (some (.l 0, false))⟩, ⟨.loc, .ld none (.l 0), (some (.l 1, false))⟩, ⟨.loc, .bin .lss (.l 0) (i 0), (some (.l 2, false))⟩, q (.pick (.l 3) (bo true) (.l 0)), q (.mv (.l 0)), ⟨.loc, .fa 0 (.s 3), (some (.l 0, false))⟩, ⟨.loc, .ld none (.l 0), (some (.l 1, false))⟩, ⟨.loc, .fa 2 (.s 2), (some (.l 2, false))⟩, ⟨.loc, .ld none (.l 0), (some (.l 3, false))⟩, ⟨.loc, .len (.l 0), (some (.l 4, false))⟩, ⟨.loc, .bin .geq (.l 3) (.l 0), (some (.l 5, false))⟩, w 15 (.pick (.l 6) (bo true) (.l 0))])
   (.cond (.s 15) (.seq (.reg [w 4 (.mv (bo true))])
   (.ret [f,f,f,f,t,f,f,f,f,f,f,f,f,f,f,f,f,f,f,f,f,f,f]))
   .skip))
   (.seq (.reg [q (.fa 2 (.s 2)), q (.ld none (.l 0)), q (.fa 0 (.s 3)), q (.ld none (.l 0)), q (.ia 5 (.l 2) (.l 0)), q (.fa 1 (.l 0)), q (.ld none (.l 0)), w 5 (.mv (.l 0))])
   (.seq (.reg [w 6 (.nl .tk 1)])
   (.seq (.seq (.reg [w 7 (.mv (i 0))])
   (.block 0 locksteplaw19_SchedFlat_l0))
   (.seq (.reg [q (.ld (some 3) (.s 2)), q (.fa 0 (.s 3)), q (.ld none (.l 0)), q (.call .cl (.c (.one (.fn F.sched_Flat [] []))) [(.l 2), (.l 0)]), w 8 (.mv (.l 0))])
   (.seq (.seq (.reg [q (.ld (some 3) (.s 2)), q (.fa 0 (.s 3)), q (.ld none (.l 0)), q (.mv (.s 6)), q (.call .cl (.c (.one (.fn F.sched_Legal [] []))) [(.l 3), (.l 1), (.l 0)]), q (.un .not (.l 0)), q (.mv (.l 0)), ⟨.loc, .ld (some 3) (.s 2), (some (.l 0, false))⟩, ⟨.loc, .fa 0 (.s 3), (some (.l 1, false))⟩, ⟨.loc, .ld none (.l 0), (some (.l 2, false))⟩, ⟨.loc, .mv (.s 8), (some (.l 3, false))⟩, ⟨.loc, .call .cl (.c (.one (.fn F.sched_Legal [] []))) [(.l 3), (.l 1), (.l 0)], (some (.l 4, false))⟩, ⟨.loc, .un .not (.l 0), (some (.l 5, false))⟩, q (.pick (.l 6) (bo true) (.l 0)), q (.mv (.l 0)), ⟨.loc, .mv (.s 8), (some (.l 0, false))⟩, ⟨.loc, .len (.l 0), (some (.l 1, false))⟩, ⟨.loc, .mv (.s 5), (some (.l 2, false))⟩, ⟨.loc, .len (.l 0), (some (.l 3, false))⟩, ⟨.loc, .bin .neq (.l 2) (.l 0), (some (.l 4, false))⟩, w 17 (.pick (.l 5) (bo true) (.l 0))])
   (.cond (.s 17) (.seq (.reg [w 4 (.mv (bo false))])
   (.ret [f,f,f,f,t,f,f,f,f,f,f,f,f,f,f,f,f,f,f,f,f,f,f]))
   .skip))
   (.seq (.seq (.reg [q (.ld (some 3) (.s 2)), q (.fa 0 (.s 3)), q (.ld none (.l 0)), q (.fa 2 (.s 3)), q (.ld none (.l 0)), q (.call .cl (.c (.one (.fn F.sched_Legal [] []))) [(.l 4), (.l 2), (.l 0)]), w 18 (.un .not (.l 0))])
   (.cond (.s 18) (.seq (.reg [w 4 (.mv (bo true))])
   (.ret [f,f,f,f,t,f,f,f,f,f,f,f,f,f,f,f,f,f,f,f,f,f,f]))
   .skip))
   (.seq (.reg [w 9 (.mv (i (-1)))])
   (.seq (.seq (.reg [w 10 (.mv (i 0))])
   (.block 2 locksteplaw19_SchedFlat_l1))
   (.seq (.reg [q (.ld (some 3) (.s 2)), q (.fa 0 (.s 3)), q (.ld none (.l 0)), q (.fa 2 (.s 3)), q (.ld none (.l 0)), q (.call .cl (.c (.one (.fn F.sched_Put [] []))) [(.l 4), (.l 2), (.l 0)]), q (.mv (.l 0)), q (.ext (.l 0) 0), q (.ext (.l 1) 1), w 12 (.al [.f (.sl []), .f (.lit (.int .i64 0)), .f (.sl [])] []), e (.st 3 (.s 12) (.l 2)), w 13 (.mv (.l 2))])
   (.seq (.reg [q (.mv (.s 13)), q (.bin .eql (.l 0) (i 0)), q (.mv (.l 0)), ⟨.loc, .fa 2 (.s 12), (some (.l 0, true))⟩, ⟨.loc, .ld none (.l 0), (some (.l 1, true))⟩, ⟨.loc, .len (.l 0), (some (.l 2, true))⟩, ⟨.loc, .fa 2 (.s 2), (some (.l 3, true))⟩, ⟨.loc, .ld none (.l 0), (some (.l 4, true))⟩, ⟨.loc, .len (.l 0), (some (.l 5, true))⟩, ⟨.loc, .bin .eql (.l 3) (.l 0), (some (.l 6, true))⟩, q (.pick (.l 7) (.l 0) (bo false)), q (.mv (.l 0)), ⟨.loc, .fa 2 (.s 12), (some (.l 0, true))⟩, ⟨.loc, .ld none (.l 0), (some (.l 1, true))⟩, ⟨.loc, .fa 0 (.s 3), (some (.l 2, true))⟩, ⟨.loc, .ld none (.l 0), (some (.l 3, true))⟩, ⟨.loc, .ia 5 (.l 2) (.l 0), (some (.l 4, true))⟩, ⟨.loc, .fa 1 (.l 0), (some (.l 5, true))⟩, ⟨.loc, .ld none (.l 0), (some (.l 6, true))⟩, ⟨.loc, .len (.l 0), (some (.l 7, true))⟩, ⟨.loc, .mv (.s 5), (some (.l 8, true))⟩, ⟨.loc, .len (.l 0), (some (.l 9, true))⟩, ⟨.loc, .bin .eql (.l 2) (.l 0), (some (.l 10, true))⟩, q (.pick (.l 11) (.l 0) (bo false)), q (.mv (.l 0)), ⟨.loc, .mv (.s 6), (some (.l 0, true))⟩, ⟨.loc, .mv (.s 6), (some (.l 1, true))⟩, ⟨.loc, .call .cl (.c (.one (.fn F.lockstepref02_Ints [] []))) [(.l 1), (.l 0)], (some (.l 2, true))⟩, q (.pick (.l 3) (.l 0) (bo false)), w 4 (.mv (.l 0))])
   (.ret [f,f,f,f,t,f,f,f,f,f,f,f,f,f,f,f,f,f,f,f,f,f,f])))))))))))))) }
def k_locksteplaw19_SchedFlat : List Go.Tmp := [0, 1, 2, 3, 4, 5, 6, 7, 8, 9, 10, 11, 12, 13, 15, 42, 53, 84, 91, 96, 111, 117, 120]
theorem c_locksteplaw19_SchedFlat : chkFun Go.Proofs.Tryz.prog (drawsOf Go.Proofs.Tryz.prog) k_locksteplaw19_SchedFlat Go.Proofs.Tryz.f4 a_locksteplaw19_SchedFlat = true := by kernel_rfl

def locksteplaw19_SchedDepth_b0 : Go.A.Code :=
   (.seq (.seq (.reg [q (.mv (.s 9)), q (.mv (.s 7)), q (.len (.l 0)), w 14 (.bin .lss (.l 2) (.l 0))])
   (.cond (.s 14) .skip
   (.exit 2 [f,f,t,f,t,t,t,f,t,f,f,f,f,f,f,f,f] 1)))
   (.seq (.block 3 (.seq (.seq (.reg [q (.mv (.s 7)), q (.mv (.s 9)), q (.ia 1 (.l 1) (.l 0)), q (.ld none (.l 0)), q (.bin .lss (.l 0) (i 0)), q (.mv (.l 0)), ⟨.loc, .mv (.s 7), (some (.l 0, false))⟩, ⟨.loc, .mv (.s 9), (some (.l 1, false))⟩, ⟨.loc, .ia 1 (.l 1) (.l 0), (some (.l 2, false))⟩, ⟨.loc, .ld none (.l 0), (some (.l 3, false))⟩, ⟨.loc, .mv (.s 6), (some (.l 4, false))⟩, ⟨.loc, .bin .geq (.l 1) (.l 0), (some (.l 5, false))⟩, q (.pick (.l 6) (bo true) (.l 0)), q (.mv (.l 0)), ⟨.loc, .mv (.s 5), (some (.l 0, false))⟩, ⟨.loc, .mv (.s 7), (some (.l 1, false))⟩, ⟨.loc, .mv (.s 9), (some (.l 2, false))⟩, ⟨.loc, .ia 1 (.l 1) (.l 0), (some (.l 3, false))⟩, ⟨.loc, .ld none (.l 0), (some (.l 4, false))⟩, ⟨.loc, .ia 1 (.l 4) (.l 0), (some (.l 5, false))⟩, ⟨.loc, .ld none (.l 0), (some (.l 6, false))⟩, ⟨.loc, .mv (.s 5), (some (.l 7, false))⟩, ⟨.loc, .mv (.s 6), (some (.l 8, false))⟩, ⟨.loc, .ia 1 (.l 1) (.l 0), (some (.l 9, false))⟩, ⟨.loc, .ld none (.l 0), (some (.l 10, false))⟩, ⟨.loc, .bin .geq (.l 4) (.l 0), (some (.l 11, false))⟩, w 15 (.pick (.l 12) (bo true) (.l 0))])
   (.cond (.s 15) (.seq (.reg [w 3 (.mv (bo false))])
   (.ret [f,f,f,t,f,f,f,f,f,f,f,f,f,f,f,f,f]))
   .skip))
   (.reg [q (.mv (.s 8)), q (.mv (.s 5)), q (.mv (.s 7)), q (.mv (.s 9)), q (.ia 1 (.l 1) (.l 0)), q (.ld none (.l 0)), q (.ia 1 (.l 4) (.l 0)), q (.ld none (.l 0)), q (.mxn true (.l 7) (.l 0)), w 8 (.mv (.l 0))])))
   (.reg [q (.mv (.s 9)), q (.bin .add (.l 0) (i 1)), w 9 (.mv (.l 0))])))
def locksteplaw19_SchedDepth_l0 : Go.A.Code := .loop [f,f,t,f,t,t,t,t,t,t,f,f,f,f,f,f,f] 1 locksteplaw19_SchedDepth_b0
theorem locksteplaw19_SchedDepth_l0_eq (T : Nat → Option Entry) (s : St) : exec T locksteplaw19_SchedDepth_l0 s = (exec T locksteplaw19_SchedDepth_b0 s).bind (loopK (exec T locksteplaw19_SchedDepth_l0) [f,f,t,f,t,t,t,t,t,t,f,f,f,f,f,f,f] 1) := exec_loop T s _ _ _
def locksteplaw19_SchedDepth_b1 : Go.A.Code :=
   (.seq (.seq (.reg [q (.mv (.s 6)), q (.mv (.s 5)), q (.len (.l 0)), w 13 (.bin .lss (.l 2) (.l 0))])
   (.cond (.s 13) .skip
   (.exit 0 [f,f,f,f,f,f,f,f,f,f,f,f,f,f,f,f,f] 1)))
   (.seq (.block 1 (.seq (.reg [q (.ld (some 3) (.s 2)), q (.mv (.s 4)), q (.mv (.s 6)), q (.call .cl (.c (.one (.fn F.sched_Hangs [] []))) [(.l 2), (.l 1), (.l 0)]), w 7 (.mv (.l 0))])
   (.seq (.reg [w 8 (.mv (i (-1)))])
   (.seq (.seq (.reg [w 9 (.mv (i 0))])
   (.block 2 locksteplaw19_SchedDepth_l0))
   (.seq (.reg [q (.mv (.s 5)), q (.mv (.s 6)), q (.ia 1 (.l 1) (.l 0)), q (.ld none (.l 0)), q (.mv (.s 8)), q (.bin .add (.l 0) (i 1)), w 16 (.bin .neq (.l 2) (.l 0))])
   (.cond (.s 16) (.seq (.reg [w 3 (.mv (bo false))])
   (.ret [f,f,f,t,f,f,f,f,f,f,f,f,f,f,f,f,f]))
   .skip))))))
   (.reg [q (.mv (.s 6)), q (.bin .add (.l 0) (i 1)), w 6 (.mv (.l 0))])))
def locksteplaw19_SchedDepth_l1 : Go.A.Code := .loop [f,f,t,f,t,t,t,f,f,f,f,f,f,f,f,f,f] 1 locksteplaw19_SchedDepth_b1
theorem locksteplaw19_SchedDepth_l1_eq (T : Nat → Option Entry) (s : St) : exec T locksteplaw19_SchedDepth_l1 s = (exec T locksteplaw19_SchedDepth_b1 s).bind (loopK (exec T locksteplaw19_SchedDepth_l1) [f,f,t,f,t,t,t,f,f,f,f,f,f,f,f,f,f] 1) := exec_loop T s _ _ _
/-- lockstep/locksteplaw19.SchedDepth -/
def a_locksteplaw19_SchedDepth : Fun := { np := 2, nslots := 17, keep := 0, raw := false, results := [(3, none)], body :=
   (.seq (.reg [w 2 (.box 3 (.s 0)), w 3 (.mv (bo false))])
   (.seq (.seq (.reg [q (.call .cl (.c (.one (.fn F.locksteplaw19_awake [] []))) []), w 10 (.un .not (.l 0))])
   (.cond (.s 10) (.seq (.reg [w 3 (.mv (bo false))])
   (.ret [f,f,f,t,f,f,f,f,f,f,f,f,f,f,f,f,f]))
   .skip))
   (.seq (.seq (.reg [q (.ld (some 3) (.s 2)), q (.call .cl (.c (.one (.fn F.lockstepref11_Small [] []))) [(.l 0)]), q (.un .not (.l 0)), q (.mv (.l 0)), ⟨.loc, .ld (some 3) (.s 2), (some (.l 0, false))⟩, ⟨.loc, .call .cl (.c (.one (.fn F.lockstepref11_Check [] []))) [(.l 0), (i 2)], (some (.l 1, false))⟩, ⟨.loc, .bin .neq (.l 0) (i 0), (some (.l 2, false))⟩, w 11 (.pick (.l 3) (bo true) (.l 0))])
   (.cond (.s 11) (.seq (.reg [w 3 (.mv (bo true))])
   (.ret [f,f,f,t,f,f,f,f,f,f,f,f,f,f,f,f,f]))
   .skip))
   (.seq (.reg [q (.mv (.s 1)), q (.conv .i64 (.l 0)), q (.fa 2 (.s 2)), q (.ld none (.l 0)), q (.len (.l 0)), q (.bin .rem (.l 3) (.l 0)), w 4 (.mv (.l 0))])
   (.seq (.reg [q (.ld (some 3) (.s 2)), q (.mv (.s 4)), q (.call .cl (.c (.one (.fn F.sched_Depth [] []))) [(.l 1), (.l 0)]), w 5 (.mv (.l 0))])
   (.seq (.seq (.reg [q (.mv (.s 5)), q (.len (.l 0)), q (.fa 2 (.s 2)), q (.ld none (.l 0)), q (.mv (.s 4)), q (.ia 5 (.l 1) (.l 0)), q (.fa 1 (.l 0)), q (.ld none (.l 0)), q (.len (.l 0)), w 12 (.bin .neq (.l 7) (.l 0))])
   (.cond (.s 12) (.seq (.reg [w 3 (.mv (bo false))])
   (.ret [f,f,f,t,f,f,f,f,f,f,f,f,f,f,f,f,f]))
   .skip))
   (.seq (.seq (.reg [w 6 (.mv (i 0))])
   (.block 0 locksteplaw19_SchedDepth_l1))
   (.seq (.reg [w 3 (.mv (bo true))])
   (.ret [f,f,f,t,f,f,f,f,f,f,f,f,f,f,f,f,f]))))))))) }
def k_locksteplaw19_SchedDepth : List Go.Tmp := [0, 1, 2, 4, 5, 6, 7, 8, 9, 10, 12, 20, 39, 43, 53, 82, 98]
theorem c_locksteplaw19_SchedDepth : chkFun Go.Proofs.Tryz.prog (drawsOf Go.Proofs.Tryz.prog) k_locksteplaw19_SchedDepth Go.Proofs.Tryz.f5 a_locksteplaw19_SchedDepth = true := by kernel_rfl

def locksteplaw19_SchedBack_b0 : Go.A.Code :=
   (.seq (.seq (.reg [q (.mv (.s 7)), q (.fa 2 (.s 2)), q (.ld none (.l 0)), q (.len (.l 0)), w 16 (.bin .lss (.l 3) (.l 0))])
   (.cond (.s 16) .skip
   (.exit 0 [f,f,t,t,f,t,f,f,f,f,f,f,f,f,f,f,f,f,f] 3)))
   (.seq (.block 1 (.seq (.reg [q (.mv (.s 7)), q (.fa 0 (.s 3)), q (.ld none (.l 0)), q (.bin .neq (.l 2) (.l 0)), q (.mv (.l 0)), ⟨.loc, .fa 2 (.s 5), (some (.l 0, true))⟩, ⟨.loc, .ld none (.l 0), (some (.l 1, true))⟩, ⟨.loc, .mv (.s 7), (some (.l 2, true))⟩, ⟨.loc, .ia 5 (.l 1) (.l 0), (some (.l 3, true))⟩, ⟨.loc, .fa 1 (.l 0), (some (.l 4, true))⟩, ⟨.loc, .ld none (.l 0), (some (.l 5, true))⟩, ⟨.loc, .len (.l 0), (some (.l 6, true))⟩, ⟨.loc, .fa 2 (.s 2), (some (.l 7, true))⟩, ⟨.loc, .ld none (.l 0), (some (.l 8, true))⟩, ⟨.loc, .mv (.s 7), (some (.l 9, true))⟩, ⟨.loc, .ia 5 (.l 1) (.l 0), (some (.l 10, true))⟩, ⟨.loc, .fa 1 (.l 0), (some (.l 11, true))⟩, ⟨.loc, .ld none (.l 0), (some (.l 12, true))⟩, ⟨.loc, .len (.l 0), (some (.l 13, true))⟩, ⟨.loc, .bin .neq (.l 7) (.l 0), (some (.l 14, true))⟩, ⟨.loc, .mv (.l 0), (some (.l 15, true))⟩, ⟨.loc, .fa 2 (.s 5), (some (.l 0, false))⟩, ⟨.loc, .ld none (.l 0), (some (.l 1, false))⟩, ⟨.loc, .mv (.s 7), (some (.l 2, false))⟩, ⟨.loc, .ia 5 (.l 1) (.l 0), (some (.l 3, false))⟩, ⟨.loc, .fa 0 (.l 0), (some (.l 4, false))⟩, ⟨.loc, .ld none (.l 0), (some (.l 5, false))⟩, ⟨.loc, .len (.l 0), (some (.l 6, false))⟩, ⟨.loc, .fa 2 (.s 2), (some (.l 7, false))⟩, ⟨.loc, .ld none (.l 0), (some (.l 8, false))⟩, ⟨.loc, .mv (.s 7), (some (.l 9, false))⟩, ⟨.loc, .ia 5 (.l 1) (.l 0), (some (.l 10, false))⟩, ⟨.loc, .fa 0 (.l 0), (some (.l 11, false))⟩, ⟨.loc, .ld none (.l 0), (some (.l 12, false))⟩, ⟨.loc, .len (.l 0), (some (.l 13, false))⟩, ⟨.loc, .bin .neq (.l 7) (.l 0), (some (.l 14, false))⟩, ⟨.loc, .pick (.l 15) (bo true) (.l 0), (some (.l 31, true))⟩, w 17 (.pick (.l 32) (.l 0) (bo false))])
   (.cond (.s 17) (.seq (.reg [w 4 (.mv (bo false))])
   (.ret [f,f,f,f,t,f,f,f,f,f,f,f,f,f,f,f,f,f,f]))
   .skip)))
   (.reg [q (.mv (.s 7)), q (.bin .add (.l 0) (i 1)), w 7 (.mv (.l 0))])))
def locksteplaw19_SchedBack_l0 : Go.A.Code := .loop [f,f,t,t,f,t,f,t,f,f,f,f,f,f,f,f,f,f,f] 3 locksteplaw19_SchedBack_b0
theorem locksteplaw19_SchedBack_l0_eq (T : Nat → Option Entry) (s : St) : exec T locksteplaw19_SchedBack_l0 s = (exec T locksteplaw19_SchedBack_b0 s).bind (loopK (exec T locksteplaw19_SchedBack_l0) [f,f,t,t,f,t,f,t,f,f,f,f,f,f,f,f,f,f,f] 3) := exec_loop T s _ _ _
def locksteplaw19_SchedBack_b1 : Go.A.Code :=
   (.seq (.seq (.reg [q (.mv (.s 9)), q (.fa 2 (.s 3)), q (.ld none (.l 0)), q (.len (.l 0)), w 18 (.bin .lss (.l 3) (.l 0))])
   (.cond (.s 18) .skip
   (.exit 2 [f,f,t,t,f,t,f,f,t,f,f,f,f,f,f,f,f,f,f] 4)))
   (.seq (.block 3 (.reg [q (.mv (.s 8)), q (.fa 2 (.s 3)), q (.ld none (.l 0)), q (.mv (.s 9)), q (.ia 1 (.l 1) (.l 0)), q (.ld none (.l 0)), q (.mv (.s 9)), q (.ia 1 (.l 6) (.l 1)), e (.st 1 (.l 0) (.l 1))]))
   (.reg [q (.mv (.s 9)), q (.bin .add (.l 0) (i 1)), w 9 (.mv (.l 0))])))
def locksteplaw19_SchedBack_l1 : Go.A.Code := .loop [f,f,t,t,f,t,f,f,t,t,f,f,f,f,f,f,f,f,f] 4 locksteplaw19_SchedBack_b1
theorem locksteplaw19_SchedBack_l1_eq (T : Nat → Option Entry) (s : St) : exec T locksteplaw19_SchedBack_l1 s = (exec T locksteplaw19_SchedBack_b1 s).bind (loopK (exec T locksteplaw19_SchedBack_l1) [f,f,t,t,f,t,f,f,t,t,f,f,f,f,f,f,f,f,f] 4) := exec_loop T s _ _ _
/-- lockstep/locksteplaw19.SchedBack -/
def a_locksteplaw19_SchedBack : Fun := { np := 2, nslots := 19, keep := 0, raw := false, results := [(4, none)], body :=
   (.seq (.reg [w 2 (.box 3 (.s 0)), w 3 (.box 3 (.s 1)), w 4 (.mv (bo false))])
   (.seq (.seq (.reg [q (.call .cl (.c (.one (.fn F.locksteplaw19_awake [] []))) []), w 12 (.un .not (.l 0))])
   (.cond (.s 12) (.seq (.reg [w 4 (.mv (bo false))])
   (.ret [f,f,f,f,t,f,f,f,f,f,f,f,f,f,f,f,f,f,f]))
   .skip))
   (.seq (.seq (.reg [q (.ld (some 3) (.s 2)), q (.call .cl (.c (.one (.fn F.lockstepref11_Small [] []))) [(.l 0)]), q (.un .not (.l 0)), q (.mv (.l 0)), ⟨.loc, .fa 2 (.s 3), (some (.l 0, false))⟩, ⟨.loc, .ld none (.l 0), (some (.l 1, false))⟩, ⟨.loc, .len (.l 0), (some (.l 2, false))⟩, ⟨.loc, .bin .gtr (.l 0) (i 600), (some (.l 3, false))⟩, w 13 (.pick (.l 4) (bo true) (.l 0))])
   (.cond (.s 13) (.seq (.reg [w 4 (.mv (bo true))])
   (.ret [f,f,f,f,t,f,f,f,f,f,f,f,f,f,f,f,f,f,f]))
   .skip))
   (.seq (.reg [q (.ld (some 3) (.s 2)), q (.fa 0 (.s 3)), q (.ld none (.l 0)), q (.fa 2 (.s 3)), q (.ld none (.l 0)), q (.call .cl (.c (.one (.fn F.sched_Put [] []))) [(.l 4), (.l 2), (.l 0)]), q (.mv (.l 0)), q (.ext (.l 0) 0), q (.ext (.l 1) 1), w 5 (.al [.f (.sl []), .f (.lit (.int .i64 0)), .f (.sl [])] []), e (.st 3 (.s 5) (.l 2)), w 6 (.mv (.l 2))])
   (.seq (.seq (.reg [q (.mv (.s 6)), w 14 (.bin .neq (.l 0) (i 0))])
   (.cond (.s 14) (.seq (.reg [q (.mv (.s 6)), q (.bin .eql (.l 0) (i 10)), q (.mv (.l 0)), ⟨.loc, .fa 2 (.s 5), (some (.l 0, true))⟩, ⟨.loc, .ld none (.l 0), (some (.l 1, true))⟩, ⟨.loc, .len (.l 0), (some (.l 2, true))⟩, ⟨.loc, .bin .eql (.l 0) (i 0), (some (.l 3, true))⟩, q (.pick (.l 4) (.l 0) (bo false)), w 4 (.mv (.l 0))])
   (.ret [f,f,f,f,t,f,f,f,f,f,f,f,f,f,f,f,f,f,f]))
   .skip))
   (.seq (.seq (.reg [q (.fa 2 (.s 5)), q (.ld none (.l 0)), q (.len (.l 0)), q (.fa 2 (.s 2)), q (.ld none (.l 0)), q (.len (.l 0)), w 15 (.bin .neq (.l 3) (.l 0))])
   (.cond (.s 15) (.seq (.reg [w 4 (.mv (bo false))])
   (.ret [f,f,f,f,t,f,f,f,f,f,f,f,f,f,f,f,f,f,f]))
   .skip))
   (.seq (.seq (.reg [w 7 (.mv (i 0))])
   (.block 0 locksteplaw19_SchedBack_l0))
   (.seq (.reg [q (.fa 2 (.s 3)), q (.ld none (.l 0)), q (.len (.l 0)), q (.mks [.f (.lit (.int .i64 0))] none (.l 0)), w 8 (.mv (.l 0))])
   (.seq (.seq (.reg [w 9 (.mv (i 0))])
   (.block 2 locksteplaw19_SchedBack_l1))
   (.seq (.reg [q (.ld (some 3) (.s 5)), q (.fa 0 (.s 3)), q (.ld none (.l 0)), q (.mv (.s 8)), q (.call .cl (.c (.one (.fn F.sched_Put [] []))) [(.l 3), (.l 1), (.l 0)]), q (.mv (.l 0)), q (.ext (.l 0) 0), q (.ext (.l 1) 1), w 10 (.al [.f (.sl []), .f (.lit (.int .i64 0)), .f (.sl [])] []), e (.st 3 (.s 10) (.l 2)), w 11 (.mv (.l 2))])
   (.seq (.reg [q (.mv (.s 11)), q (.bin .eql (.l 0) (i 0)), q (.mv (.l 0)), ⟨.loc, .ld (some 3) (.s 10), (some (.l 0, true))⟩, ⟨.loc, .ld (some 3) (.s 2), (some (.l 1, true))⟩, ⟨.loc, .call .cl (.c (.one (.fn F.lockstepref04_Same [] []))) [(.l 1), (.l 0)], (some (.l 2, true))⟩, q (.pick (.l 3) (.l 0) (bo false)), w 4 (.mv (.l 0))])
   (.ret [f,f,f,f,t,f,f,f,f,f,f,f,f,f,f,f,f,f,f])))))))))))) }
def k_locksteplaw19_SchedBack : List Go.Tmp := [0, 1, 2, 3, 4, 5, 6, 7, 8, 9, 10, 11, 13, 22, 33, 48, 53, 93, 102]
theorem c_locksteplaw19_SchedBack : chkFun Go.Proofs.Tryz.prog (drawsOf Go.Proofs.Tryz.prog) k_locksteplaw19_SchedBack Go.Proofs.Tryz.f6 a_locksteplaw19_SchedBack = true := by kernel_rfl

def locksteplaw19_SchedFree_b0 : Go.A.Code :=
   (.seq (.seq (.reg [q (.mv (.s 5)), q (.mv (.s 2)), w 16 (.bin .lss (.l 1) (.l 0))])
   (.cond (.s 16) .skip
   (.exit 0 [t,f,t,t,t,f,f,f,f,f,f,f,f,f,f,f,f,f,f,f,f,f] 2)))
   (.seq (.block 1 (.reg [q (.fa 1 (.s 4)), q (.ld none (.l 0)), q (.mv (.s 5)), q (.bin .add (i 2) (.l 0)), q (.mv (.s 5)), q (.conv .u64 (.l 0)), q (.bld [.f (.lit (.int .i64 0)), .f (.lit (.int .i64 0)), .f (.lit (.int .i64 0)), .f (.lit (.int .i64 0)), .f (.sl []), .f (.lit (.int .u64 0))] [(0, 1, (i 0)), (1, 1, (i 8)), (2, 1, (i 1)), (3, 1, (.l 2)), (5, 1, (.l 0))] []), q (.bsl .fz 6 [[.f (.lit (.int .i64 0)), .f (.lit (.int .i64 0)), .f (.lit (.int .i64 0)), .f (.lit (.int .i64 0)), .f (.sl []), .f (.lit (.int .u64 0))]] [(0, (.l 0))]), q (.app 6 (.l 6) (.l 0)), q (.fa 1 (.s 4)), e (.st 1 (.l 0) (.l 1))]))
   (.reg [q (.mv (.s 5)), q (.bin .add (.l 0) (i 1)), w 5 (.mv (.l 0))])))
def locksteplaw19_SchedFree_l0 : Go.A.Code := .loop [t,f,t,t,t,t,f,f,f,f,f,f,f,f,f,f,f,f,f,f,f,f] 2 locksteplaw19_SchedFree_b0
theorem locksteplaw19_SchedFree_l0_eq (T : Nat → Option Entry) (s : St) : exec T locksteplaw19_SchedFree_l0 s = (exec T locksteplaw19_SchedFree_b0 s).bind (loopK (exec T locksteplaw19_SchedFree_l0) [t,f,t,t,t,t,f,f,f,f,f,f,f,f,f,f,f,f,f,f,f,f] 2) := exec_loop T s _ _ _
def locksteplaw19_SchedFree_b1 : Go.A.Code :=
   (.seq (.seq (.reg [q (.mv (.s 8)), q (.mv (.s 10)), q (.ia 1 (.l 1) (.l 0)), w 18 (.ld none (.l 0))])
   (.cond (.s 18) .skip
   (.exit 4 [t,f,t,t,f,f,t,t,t,t,t,f,f,f,f,f,f,f,f,f,f,f] 5)))
   (.block 5 (.reg [q (.mv (.s 10)), q (.bin .add (.l 0) (i 1)), q (.mv (.s 2)), q (.bin .rem (.l 1) (.l 0)), w 10 (.mv (.l 0))])))
def locksteplaw19_SchedFree_l1 : Go.A.Code := .loop [t,f,t,t,f,f,t,t,t,t,t,f,f,f,f,f,f,f,f,f,f,f] 5 locksteplaw19_SchedFree_b1
theorem locksteplaw19_SchedFree_l1_eq (T : Nat → Option Entry) (s : St) : exec T locksteplaw19_SchedFree_l1 s = (exec T locksteplaw19_SchedFree_b1 s).bind (loopK (exec T locksteplaw19_SchedFree_l1) [t,f,t,t,f,f,t,t,t,t,t,f,f,f,f,f,f,f,f,f,f,f] 5) := exec_loop T s _ _ _
def locksteplaw19_SchedFree_b2 : Go.A.Code :=
   (.seq (.seq (.reg [q (.mv (.s 9)), q (.mv (.s 2)), w 17 (.bin .lss (.l 1) (.l 0))])
   (.cond (.s 17) .skip
   (.exit 2 [f,f,t,t,f,f,t,t,f,f,f,f,f,f,f,f,f,f,f,f,f,f] 5)))
   (.seq (.block 3 (.seq (.reg [q (.mv (.s 6)), q (.mv (.s 9)), q (.bsl .fz 1 [[.f (.lit (.int .i64 0))]] [(0, (.l 0))]), q (.app 1 (.l 2) (.l 0)), w 6 (.mv (.l 0))])
   (.seq (.reg [q (.mv (.s 0)), q (.mv (.s 9)), q (.ia 1 (.l 1) (.l 0)), q (.ld none (.l 0)), q (.conv .i64 (.l 0)), q (.mv (.s 2)), q (.bin .rem (.l 1) (.l 0)), w 10 (.mv (.l 0))])
   (.seq (.block 4 locksteplaw19_SchedFree_l1)
   (.seq (.reg [q (.mv (.s 8)), q (.mv (.s 10)), q (.ia 1 (.l 1) (.l 0)), e (.st 1 (.l 0) (bo true))])
   (.reg [q (.mv (.s 7)), q (.mv (.s 10)), q (.bsl .fz 1 [[.f (.lit (.int .i64 0))]] [(0, (.l 0))]), q (.app 1 (.l 2) (.l 0)), w 7 (.mv (.l 0))]))))))
   (.reg [q (.mv (.s 9)), q (.bin .add (.l 0) (i 1)), w 9 (.mv (.l 0))])))
def locksteplaw19_SchedFree_l2 : Go.A.Code := .loop [t,f,t,t,f,f,t,t,t,t,f,f,f,f,f,f,f,f,f,f,f,f] 5 locksteplaw19_SchedFree_b2
theorem locksteplaw19_SchedFree_l2_eq (T : Nat → Option Entry) (s : St) : exec T locksteplaw19_SchedFree_l2 s = (exec T locksteplaw19_SchedFree_b2 s).bind (loopK (exec T locksteplaw19_SchedFree_l2) [t,f,t,t,f,f,t,t,t,t,f,f,f,f,f,f,f,f,f,f,f,f] 5) := exec_loop T s _ _ _
def locksteplaw19_SchedFree_b3 : Go.A.Code :=
   (.seq (.seq (.reg [q (.mv (.s 13)), q (.mv (.s 2)), w 20 (.bin .lss (.l 1) (.l 0))])
   (.cond (.s 20) .skip
   (.exit 6 [f,f,f,f,f,f,f,f,f,f,f,f,f,f,f,f,f,f,f,f,f,f] 6)))
   (.seq (.block 7 (.seq (.reg [q (.fa 2 (.s 11)), q (.ld none (.l 0)), q (.ia 5 (.l 0) (i 0)), q (.fa 1 (.l 0)), q (.ld none (.l 0)), q (.mv (.s 13)), q (.ia 6 (.l 1) (.l 0)), q (.fa 3 (.l 0)), q (.ld none (.l 0)), q (.mv (.s 7)), q (.mv (.s 13)), q (.ia 1 (.l 1) (.l 0)), q (.ld none (.l 0)), q (.bin .add (i 2) (.l 0)), q (.bin .neq (.l 5) (.l 0)), q (.mv (.l 0)), ⟨.loc, .ld (some 3) (.s 3), (some (.l 0, false))⟩, ⟨.loc, .mv (.s 13), (some (.l 1, false))⟩, ⟨.loc, .call .cl (.c (.one (.fn F.sched_Hangs [] []))) [(.l 1), (i 0), (.l 0)], (some (.l 2, false))⟩, ⟨.loc, .len (.l 0), (some (.l 3, false))⟩, ⟨.loc, .bin .neq (.l 0) (i 0), (some (.l 4, false))⟩, q (.pick (.l 5) (bo true) (.l 0)), q (.mv (.l 0)), ⟨.loc, .ld (some 3) (.s 3), (some (.l 0, false))⟩, ⟨.loc, .call .cl (.c (.one (.fn F.sched_Depth [] []))) [(.l 0), (i 0)], (some (.l 1, false))⟩, ⟨.loc, .mv (.s 13), (some (.l 2, false))⟩, ⟨.loc, .ia 1 (.l 1) (.l 0), (some (.l 3, false))⟩, ⟨.loc, .ld none (.l 0), (some (.l 4, false))⟩, ⟨.loc, .bin .neq (.l 0) (i 0), (some (.l 5, false))⟩, w 21 (.pick (.l 6) (bo true) (.l 0))])
   (.cond (.s 21) (.seq (.reg [w 1 (.mv (bo false))])
   (.ret [f,t,f,f,f,f,f,f,f,f,f,f,f,f,f,f,f,f,f,f,f,f]))
   .skip)))
   (.reg [q (.mv (.s 13)), q (.bin .add (.l 0) (i 1)), w 13 (.mv (.l 0))])))
def locksteplaw19_SchedFree_l3 : Go.A.Code := .loop [f,f,t,t,f,f,f,t,f,f,f,t,f,t,f,f,f,f,f,f,f,f] 6 locksteplaw19_SchedFree_b3
theorem locksteplaw19_SchedFree_l3_eq (T : Nat → Option Entry) (s : St) : exec T locksteplaw19_SchedFree_l3 s = (exec T locksteplaw19_SchedFree_b3 s).bind (loopK (exec T locksteplaw19_SchedFree_l3) [f,f,t,t,f,f,f,t,f,f,f,t,f,t,f,f,f,f,f,f,f,f] 6) := exec_loop T s _ _ _
/-- lockstep/locksteplaw19.SchedFree -/
def a_locksteplaw19_SchedFree : Fun := { np := 1, nslots := 22, keep := 0, raw := false, results := [(1, none)], body :=
   (.seq (.reg [w 1 (.mv (bo false))])
   (.seq (.seq (.reg [q (.call .cl (.c (.one (.fn F.locksteplaw19_awake [] []))) []), w 14 (.un .not (.l 0))])
   (.cond (.s 14) (.seq (.reg [w 1 (.mv (bo false))])
   (.ret [f,t,f,f,f,f,f,f,f,f,f,f,f,f,f,f,f,f,f,f,f,f]))
   .skip))
   (.seq (.reg [q (.mv (.s 0)), q (.len (.l 0)), w 2 (.mv (.l 0))])
   (.seq (.seq (.reg [q (.mv (.s 2)), w 15 (.bin .gtr (.l 0) (i 60))])
   (.cond (.s 15) (.seq (.reg [w 1 (.mv (bo true))])
   (.ret [f,t,f,f,f,f,f,f,f,f,f,f,f,f,f,f,f,f,f,f,f,f]))
   .skip))
   (.seq (.reg [q (.bsl .fz 1 [[.f (.lit (.int .i64 0))]] [(0, (i 8))]), q (.bld [.f (.sl []), .f (.lit (.int .i64 0)), .f (.sl [])] [(0, 1, (.l 0)), (1, 1, (i 8))] []), w 3 (.al [.f (.sl []), .f (.lit (.int .i64 0)), .f (.sl [])] []), e (.st 3 (.s 3) (.l 1))])
   (.seq (.reg [w 4 (.al [.f (.sl []), .f (.sl []), .f (.lit (.int .i64 0)), .f (.lit (.int .i64 0)), .f (.sl [])] [])])
   (.seq (.seq (.reg [w 5 (.mv (i 0))])
   (.block 0 locksteplaw19_SchedFree_l0))
   (.seq (.reg [q (.bld [.f (.lit (.int .i64 0)), .f (.lit (.int .i64 0)), .f (.sl [])] [(0, 1, (i 0)), (1, 1, (i 1))] []), q (.fa 2 (.s 4)), e (.st 3 (.l 0) (.l 1))])
   (.seq (.reg [q (.ld (some 5) (.s 4)), q (.bsl .fz 5 [[.f (.sl []), .f (.sl []), .f (.lit (.int .i64 0)), .f (.lit (.int .i64 0)), .f (.sl [])]] [(0, (.l 0))]), q (.fa 2 (.s 3)), e (.st 1 (.l 0) (.l 1))])
   (.seq (.reg [w 6 (.nl .tk 1)])
   (.seq (.reg [w 7 (.nl .tk 1)])
   (.seq (.reg [q (.mv (.s 2)), q (.mks [.f (.lit (.bool false))] none (.l 0)), w 8 (.mv (.l 0))])
   (.seq (.seq (.reg [w 9 (.mv (i 0))])
   (.block 2 locksteplaw19_SchedFree_l2))
   (.seq (.reg [q (.ld (some 3) (.s 3)), q (.mv (.s 7)), q (.call .cl (.c (.one (.fn F.sched_Put [] []))) [(.l 1), (i 0), (.l 0)]), q (.mv (.l 0)), q (.ext (.l 0) 0), q (.ext (.l 1) 1), w 11 (.al [.f (.sl []), .f (.lit (.int .i64 0)), .f (.sl [])] []), e (.st 3 (.s 11) (.l 2)), w 12 (.mv (.l 2))])
   (.seq (.seq (.reg [q (.mv (.s 12)), q (.bin .neq (.l 0) (i 0)), q (.mv (.l 0)), ⟨.loc, .ld (some 3) (.s 3), (some (.l 0, false))⟩, ⟨.loc, .call .cl (.c (.one (.fn F.sched_Flat [] []))) [(.l 0), (i 0)], (some (.l 1, false))⟩, ⟨.loc, .mv (.s 6), (some (.l 2, false))⟩, ⟨.loc, .call .cl (.c (.one (.fn F.lockstepref02_Ints [] []))) [(.l 1), (.l 0)], (some (.l 3, false))⟩, ⟨.loc, .un .not (.l 0), (some (.l 4, false))⟩, q (.pick (.l 5) (bo true) (.l 0)), q (.mv (.l 0)), ⟨.loc, .fa 2 (.s 11), (some (.l 0, false))⟩, ⟨.loc, .ld none (.l 0), (some (.l 1, false))⟩, ⟨.loc, .len (.l 0), (some (.l 2, false))⟩, ⟨.loc, .bin .neq (.l 0) (i 1), (some (.l 3, false))⟩, q (.pick (.l 4) (bo true) (.l 0)), q (.mv (.l 0)), ⟨.loc, .fa 2 (.s 11), (some (.l 0, false))⟩, ⟨.loc, .ld none (.l 0), (some (.l 1, false))⟩, ⟨.loc, .ia 5 (.l 0) (i 0), (some (.l 2, false))⟩, ⟨.loc, .fa 1 (.l 0), (some (.l 3, false))⟩, ⟨.loc, .ld none (.l 0), (some (.l 4, false))⟩, ⟨.loc, .len (.l 0), (some (.l 5, false))⟩, ⟨.loc, .mv (.s 2), (some (.l 6, false))⟩, ⟨.loc, .bin .neq (.l 1) (.l 0), (some (.l 7, false))⟩, q (.pick (.l 8) (bo true) (.l 0)), q (.mv (.l 0)), ⟨.loc, .ld (some 3) (.s 3), (some (.l 0, false))⟩, ⟨.loc, .call .cl (.c (.one (.fn F.sched_Depth [] []))) [(.l 0), (i 0)], (some (.l 1, false))⟩, ⟨.loc, .len (.l 0), (some (.l 2, false))⟩, ⟨.loc, .mv (.s 2), (some (.l 3, false))⟩, ⟨.loc, .bin .neq (.l 1) (.l 0), (some (.l 4, false))⟩, w 19 (.pick (.l 5) (bo true) (.l 0))])
   (.cond (.s 19) (.seq (.reg [w 1 (.mv (bo false))])
   (.ret [f,t,f,f,f,f,f,f,f,f,f,f,f,f,f,f,f,f,f,f,f,f]))
   .skip))
   (.seq (.seq (.reg [w 13 (.mv (i 0))])
   (.block 6 locksteplaw19_SchedFree_l3))
   (.seq (.reg [w 1 (.mv (bo true))])
   (.ret [f,t,f,f,f,f,f,f,f,f,f,f,f,f,f,f,f,f,f,f,f,f])))))))))))))))))) }
def k_locksteplaw19_SchedFree : List Go.Tmp := [0, 2, 3, 4, 5, 6, 7, 8, 9, 10, 11, 12, 13, 14, 16, 20, 25, 47, 64, 113, 116, 148]
theorem c_locksteplaw19_SchedFree : chkFun Go.Proofs.Tryz.prog (drawsOf Go.Proofs.Tryz.prog) k_locksteplaw19_SchedFree Go.Proofs.Tryz.f7 a_locksteplaw19_SchedFree = true := by kernel_rfl

/-- lockstep/locksteplaw17.AffineSums -/
def a_locksteplaw17_AffineSums : Fun := { np := 3, nslots := 15, keep := 0, raw := false, results := [(5, none)], body :=
   (.seq (.reg [w 3 (.box 2 (.s 0)), w 4 (.box 2 (.s 1)), w 5 (.mv (bo false))])
   (.seq (.seq (.reg [q (.call .cl (.c (.one (.fn F.locksteplaw17_awake [] []))) []), w 9 (.un .not (.l 0))])
   (.cond (.s 9) (.seq (.reg [w 5 (.mv (bo false))])
   (.ret [f,f,f,f,f,t,f,f,f,f,f,f,f,f,f]))
   .skip))
   (.seq (.seq (.reg [q (.fa 0 (.s 3)), q (.ld none (.l 0)), q (.len (.l 0)), q (.bin .gtr (.l 0) (i 200)), q (.mv (.l 0)), ⟨.loc, .fa 0 (.s 4), (some (.l 0, false))⟩, ⟨.loc, .ld none (.l 0), (some (.l 1, false))⟩, ⟨.loc, .len (.l 0), (some (.l 2, false))⟩, ⟨.loc, .bin .gtr (.l 0) (i 200), (some (.l 3, false))⟩, w 10 (.pick (.l 4) (bo true) (.l 0))])
   (.cond (.s 10) (.seq (.reg [w 5 (.mv (bo true))])
   (.ret [f,f,f,f,f,t,f,f,f,f,f,f,f,f,f]))
   .skip))
   (.seq (.reg [q (.ld (some 2) (.s 3)), q (.ld (some 2) (.s 4)), q (.call .cl (.c (.one (.fn F.affine_Plus [] []))) [(.l 1), (.l 0)]), w 6 (.al [.f (.sl []), .f (.lit (.int .u64 0))] []), e (.st 2 (.s 6) (.l 1))])
   (.seq (.reg [q (.ld (some 2) (.s 3)), q (.ld (some 2) (.s 4)), q (.call .cl (.c (.one (.fn F.affine_Minus [] []))) [(.l 1), (.l 0)]), w 7 (.al [.f (.sl []), .f (.lit (.int .u64 0))] []), e (.st 2 (.s 7) (.l 1))])
   (.seq (.reg [q (.ld (some 2) (.s 3)), q (.mv (.s 2)), q (.call .cl (.c (.one (.fn F.affine_Times [] []))) [(.l 1), (.l 0)]), w 8 (.al [.f (.sl []), .f (.lit (.int .u64 0))] []), e (.st 2 (.s 8) (.l 1))])
   (.seq (.seq (.reg [q (.ld (some 2) (.s 3)), q (.call .cl (.c (.one (.fn F.affine_May [] []))) [(.l 0)]), q (.ld (some 2) (.s 3)), q (.call .cl (.c (.one (.fn F.lockstepref17_May [] []))) [(.l 0)]), q (.beq true (.l 2) (.l 0)), q (.mv (.l 0)), ⟨.loc, .ld (some 2) (.s 3), (some (.l 0, false))⟩, ⟨.loc, .ld (some 2) (.s 4), (some (.l 1, false))⟩, ⟨.loc, .call .cl (.c (.one (.fn F.affine_Same [] []))) [(.l 1), (.l 0)], (some (.l 2, false))⟩, ⟨.loc, .ld (some 2) (.s 3), (some (.l 3, false))⟩, ⟨.loc, .ld (some 2) (.s 4), (some (.l 4, false))⟩, ⟨.loc, .call .cl (.c (.one (.fn F.lockstepref17_Same [] []))) [(.l 1), (.l 0)], (some (.l 5, false))⟩, ⟨.loc, .beq true (.l 3) (.l 0), (some (.l 6, false))⟩, w 11 (.pick (.l 7) (bo true) (.l 0))])
   (.cond (.s 11) (.seq (.reg [w 5 (.mv (bo false))])
   (.ret [f,f,f,f,f,t,f,f,f,f,f,f,f,f,f]))
   .skip))
   (.seq (.seq (.reg [q (.ld (some 2) (.s 3)), q (.call .cl (.c (.one (.fn F.lockstepref17_May [] []))) [(.l 0)]), w 12 (.un .not (.l 0))])
   (.cond (.s 12) (.seq (.reg [q (.ld (some 2) (.s 6)), q (.bld [.f (.sl []), .f (.lit (.int .u64 0))] [] []), q (.call .cl (.c (.one (.fn F.lockstepref17_Same [] []))) [(.l 1), (.l 0)]), q (.mv (.l 0)), ⟨.loc, .ld (some 2) (.s 7), (some (.l 0, true))⟩, ⟨.loc, .bld [.f (.sl []), .f (.lit (.int .u64 0))] [] [], (some (.l 1, true))⟩, ⟨.loc, .call .cl (.c (.one (.fn F.lockstepref17_Same [] []))) [(.l 1), (.l 0)], (some (.l 2, true))⟩, q (.pick (.l 3) (.l 0) (bo false)), q (.mv (.l 0)), ⟨.loc, .ld (some 2) (.s 8), (some (.l 0, true))⟩, ⟨.loc, .bld [.f (.sl []), .f (.lit (.int .u64 0))] [] [], (some (.l 1, true))⟩, ⟨.loc, .call .cl (.c (.one (.fn F.lockstepref17_Same [] []))) [(.l 1), (.l 0)], (some (.l 2, true))⟩, q (.pick (.l 3) (.l 0) (bo false)), w 5 (.mv (.l 0))])
   (.ret [f,f,f,f,f,t,f,f,f,f,f,f,f,f,f]))
   .skip))
   (.seq (.seq (.reg [q (.ld (some 2) (.s 8)), q (.ld (some 2) (.s 3)), q (.mv (.s 2)), q (.bld [.f (.sl []), .f (.lit (.int .u64 0))] [] []), q (.call .cl (.c (.one (.fn F.lockstepref17_Mix [] []))) [(.l 2), (.l 1), (.l 0), (ik .u64 0)]), q (.call .cl (.c (.one (.fn F.lockstepref17_Same [] []))) [(.l 4), (.l 0)]), w 13 (.un .not (.l 0))])
   (.cond (.s 13) (.seq (.reg [w 5 (.mv (bo false))])
   (.ret [f,f,f,f,f,t,f,f,f,f,f,f,f,f,f]))
   .skip))
   (.seq (.seq (.reg [q (.ld (some 2) (.s 4)), q (.call .cl (.c (.one (.fn F.lockstepref17_May [] []))) [(.l 0)]), w 14 (.un .not (.l 0))])
   (.cond (.s 14) (.seq (.reg [q (.ld (some 2) (.s 6)), q (.bld [.f (.sl []), .f (.lit (.int .u64 0))] [] []), q (.call .cl (.c (.one (.fn F.lockstepref17_Same [] []))) [(.l 1), (.l 0)]), q (.mv (.l 0)), ⟨.loc, .ld (some 2) (.s 7), (some (.l 0, true))⟩, ⟨.loc, .bld [.f (.sl []), .f (.lit (.int .u64 0))] [] [], (some (.l 1, true))⟩, ⟨.loc, .call .cl (.c (.one (.fn F.lockstepref17_Same [] []))) [(.l 1), (.l 0)], (some (.l 2, true))⟩, q (.pick (.l 3) (.l 0) (bo false)), w 5 (.mv (.l 0))])
   (.ret [f,f,f,f,f,t,f,f,f,f,f,f,f,f,f]))
   .skip))
   (.seq (.reg [q (.ld (some 2) (.s 6)), q (.ld (some 2) (.s 3)), q (.ld (some 2) (.s 4)), q (.call .cl (.c (.one (.fn F.lockstepref17_Mix [] []))) [(.l 1), (ik .u64 1), (.l 0), (ik .u64 1)]), q (.call .cl (.c (.one (.fn F.lockstepref17_Same [] []))) [(.l 3), (.l 0)]), q (.mv (.l 0)), ⟨.loc, .ld (some 2) (.s 7), (some (.l 0, true))⟩, ⟨.loc, .ld (some 2) (.s 3), (some (.l 1, true))⟩, ⟨.loc, .ld (some 2) (.s 4), (some (.l 2, true))⟩, ⟨.loc, .call .cl (.c (.one (.fn F.lockstepref17_Mix [] []))) [(.l 1), (ik .u64 1), (.l 0), (ik .u64 18446744073709551615)], (some (.l 3, true))⟩, ⟨.loc, .call .cl (.c (.one (.fn F.lockstepref17_Same [] []))) [(.l 3), (.l 0)], (some (.l 4, true))⟩, q (.pick (.l 5) (.l 0) (bo false)), w 5 (.mv (.l 0))])
   (.ret [f,f,f,f,f,t,f,f,f,f,f,f,f,f,f])))))))))))) }
def k_locksteplaw17_AffineSums : List Go.Tmp := [0, 1, 2, 3, 4, 6, 7, 8, 9, 11, 21, 44, 47, 67, 70]
theorem c_locksteplaw17_AffineSums : chkFun Go.Proofs.Tryz.prog (drawsOf Go.Proofs.Tryz.prog) k_locksteplaw17_AffineSums Go.Proofs.Tryz.f8 a_locksteplaw17_AffineSums = true := by kernel_rfl

/-- lockstep/locksteplaw17.AffineFinds -/
def a_locksteplaw17_AffineFinds : Fun := { np := 2, nslots := 11, keep := 0, raw := false, results := [(3, none)], body :=
   (.seq (.reg [w 2 (.box 3 (.s 0)), w 3 (.mv (bo false))])
   (.seq (.seq (.reg [q (.call .cl (.c (.one (.fn F.locksteplaw17_awake [] []))) []), w 8 (.un .not (.l 0))])
   (.cond (.s 8) (.seq (.reg [w 3 (.mv (bo false))])
   (.ret [f,f,f,t,f,f,f,f,f,f,f]))
   .skip))
   (.seq (.seq (.reg [q (.ld (some 3) (.s 2)), q (.call .cl (.c (.one (.fn F.lockstepref11_Small [] []))) [(.l 0)]), w 9 (.un .not (.l 0))])
   (.cond (.s 9) (.seq (.reg [w 3 (.mv (bo true))])
   (.ret [f,f,f,t,f,f,f,f,f,f,f]))
   .skip))
   (.seq (.reg [q (.ld (some 3) (.s 2)), q (.mv (.s 1)), q (.call .cl (.c (.one (.fn F.affine_Of [] []))) [(.l 1), (.l 0)]), q (.mv (.l 0)), q (.ext (.l 0) 0), q (.ext (.l 1) 1), w 4 (.al [.f (.sl []), .f (.lit (.int .u64 0))] []), e (.st 2 (.s 4) (.l 2)), w 5 (.mv (.l 2))])
   (.seq (.reg [q (.ld (some 3) (.s 2)), q (.mv (.s 1)), q (.call .cl (.c (.one (.fn F.lockstepref17_Find [] []))) [(.l 1), (.l 0)]), q (.mv (.l 0)), q (.ext (.l 0) 0), q (.ext (.l 1) 1), w 6 (.al [.f (.sl []), .f (.lit (.int .u64 0))] []), e (.st 2 (.s 6) (.l 2)), w 7 (.mv (.l 2))])
   (.seq (.seq (.reg [q (.ld (some 2) (.s 4)), q (.ld (some 2) (.s 6)), q (.call .cl (.c (.one (.fn F.lockstepref17_Same [] []))) [(.l 1), (.l 0)]), q (.un .not (.l 0)), q (.mv (.l 0)), ⟨.loc, .mv (.s 5), (some (.l 0, false))⟩, ⟨.loc, .mv (.s 7), (some (.l 1, false))⟩, ⟨.loc, .bin .neq (.l 1) (.l 0), (some (.l 2, false))⟩, w 10 (.pick (.l 3) (bo true) (.l 0))])
   (.cond (.s 10) (.seq (.reg [w 3 (.mv (bo false))])
   (.ret [f,f,f,t,f,f,f,f,f,f,f]))
   .skip))
   (.seq (.reg [q (.mv (.s 5)), q (.bin .neq (.l 0) (i 0)), q (.mv (.l 0)), ⟨.loc, .ld (some 2) (.s 4), (some (.l 0, false))⟩, ⟨.loc, .call .cl (.c (.one (.fn F.affine_May [] []))) [(.l 0)], (some (.l 1, false))⟩, ⟨.loc, .mv (.l 0), (some (.l 2, false))⟩, ⟨.loc, .fa 0 (.s 4), (some (.l 0, true))⟩, ⟨.loc, .ld none (.l 0), (some (.l 1, true))⟩, ⟨.loc, .len (.l 0), (some (.l 2, true))⟩, ⟨.loc, .bin .leq (.l 0) (i 16), (some (.l 3, true))⟩, ⟨.loc, .pick (.l 4) (.l 0) (bo false), (some (.l 7, false))⟩, q (.pick (.l 8) (bo true) (.l 0)), w 3 (.mv (.l 0))])
   (.ret [f,f,f,t,f,f,f,f,f,f,f])))))))) }
def k_locksteplaw17_AffineFinds : List Go.Tmp := [0, 1, 2, 4, 5, 6, 7, 8, 10, 13, 34]
theorem c_locksteplaw17_AffineFinds : chkFun Go.Proofs.Tryz.prog (drawsOf Go.Proofs.Tryz.prog) k_locksteplaw17_AffineFinds Go.Proofs.Tryz.f9 a_locksteplaw17_AffineFinds = true := by kernel_rfl

/-- lockstep/locksteplaw17.AffineRing -/
def a_locksteplaw17_AffineRing : Fun := { np := 3, nslots := 8, keep := 0, raw := false, results := [(5, none)], body :=
   (.seq (.reg [w 3 (.box 2 (.s 0)), w 4 (.box 2 (.s 1)), w 5 (.mv (bo false))])
   (.seq (.seq (.reg [q (.call .cl (.c (.one (.fn F.locksteplaw17_awake [] []))) []), w 6 (.un .not (.l 0))])
   (.cond (.s 6) (.seq (.reg [w 5 (.mv (bo false))])
   (.ret [f,f,f,f,f,t,f,f]))
   .skip))
   (.seq (.seq (.reg [q (.fa 0 (.s 3)), q (.ld none (.l 0)), q (.len (.l 0)), q (.bin .gtr (.l 0) (i 200)), q (.mv (.l 0)), ⟨.loc, .fa 0 (.s 4), (some (.l 0, false))⟩, ⟨.loc, .ld none (.l 0), (some (.l 1, false))⟩, ⟨.loc, .len (.l 0), (some (.l 2, false))⟩, ⟨.loc, .bin .gtr (.l 0) (i 200), (some (.l 3, false))⟩, q (.pick (.l 4) (bo true) (.l 0)), q (.mv (.l 0)), ⟨.loc, .ld (some 2) (.s 3), (some (.l 0, false))⟩, ⟨.loc, .call .cl (.c (.one (.fn F.lockstepref17_May [] []))) [(.l 0)], (some (.l 1, false))⟩, ⟨.loc, .un .not (.l 0), (some (.l 2, false))⟩, q (.pick (.l 3) (bo true) (.l 0)), q (.mv (.l 0)), ⟨.loc, .ld (some 2) (.s 4), (some (.l 0, false))⟩, ⟨.loc, .call .cl (.c (.one (.fn F.lockstepref17_May [] []))) [(.l 0)], (some (.l 1, false))⟩, ⟨.loc, .un .not (.l 0), (some (.l 2, false))⟩, w 7 (.pick (.l 3) (bo true) (.l 0))])
   (.cond (.s 7) (.seq (.reg [w 5 (.mv (bo true))])
   (.ret [f,f,f,f,f,t,f,f]))
   .skip))
   (.seq (.reg [q (.ld (some 2) (.s 3)), q (.ld (some 2) (.s 4)), q (.call .cl (.c (.one (.fn F.affine_Plus [] []))) [(.l 1), (.l 0)]), q (.ld (some 2) (.s 4)), q (.ld (some 2) (.s 3)), q (.call .cl (.c (.one (.fn F.affine_Plus [] []))) [(.l 1), (.l 0)]), q (.call .cl (.c (.one (.fn F.affine_Same [] []))) [(.l 3), (.l 0)]), q (.mv (.l 0)), ⟨.loc, .ld (some 2) (.s 3), (some (.l 0, true))⟩, ⟨.loc, .ld (some 2) (.s 3), (some (.l 1, true))⟩, ⟨.loc, .call .cl (.c (.one (.fn F.affine_Minus [] []))) [(.l 1), (.l 0)], (some (.l 2, true))⟩, ⟨.loc, .bld [.f (.sl []), .f (.lit (.int .u64 0))] [] [], (some (.l 3, true))⟩, ⟨.loc, .call .cl (.c (.one (.fn F.affine_Same [] []))) [(.l 1), (.l 0)], (some (.l 4, true))⟩, q (.pick (.l 5) (.l 0) (bo false)), q (.mv (.l 0)), ⟨.loc, .ld (some 2) (.s 3), (some (.l 0, true))⟩, ⟨.loc, .ld (some 2) (.s 4), (some (.l 1, true))⟩, ⟨.loc, .call .cl (.c (.one (.fn F.affine_Plus [] []))) [(.l 1), (.l 0)], (some (.l 2, true))⟩, ⟨.loc, .mv (.s 2), (some (.l 3, true))⟩, ⟨.loc, .call .cl (.c (.one (.fn F.affine_Times [] []))) [(.l 1), (.l 0)], (some (.l 4, true))⟩, ⟨.loc, .ld (some 2) (.s 3), (some (.l 5, true))⟩, ⟨.loc, .mv (.s 2), (some (.l 6, true))⟩, ⟨.loc, .call .cl (.c (.one (.fn F.affine_Times [] []))) [(.l 1), (.l 0)], (some (.l 7, true))⟩, ⟨.loc, .ld (some 2) (.s 4), (some (.l 8, true))⟩, ⟨.loc, .mv (.s 2), (some (.l 9, true))⟩, ⟨.loc, .call .cl (.c (.one (.fn F.affine_Times [] []))) [(.l 1), (.l 0)], (some (.l 10, true))⟩, ⟨.loc, .call .cl (.c (.one (.fn F.affine_Plus [] []))) [(.l 3), (.l 0)], (some (.l 11, true))⟩, ⟨.loc, .call .cl (.c (.one (.fn F.affine_Same [] []))) [(.l 7), (.l 0)], (some (.l 12, true))⟩, q (.pick (.l 13) (.l 0) (bo false)), q (.mv (.l 0)), ⟨.loc, .ld (some 2) (.s 3), (some (.l 0, true))⟩, ⟨.loc, .ld (some 2) (.s 4), (some (.l 1, true))⟩, ⟨.loc, .call .cl (.c (.one (.fn F.affine_Plus [] []))) [(.l 1), (.l 0)], (some (.l 2, true))⟩, ⟨.loc, .ld (some 2) (.s 4), (some (.l 3, true))⟩, ⟨.loc, .call .cl (.c (.one (.fn F.affine_Minus [] []))) [(.l 1), (.l 0)], (some (.l 4, true))⟩, ⟨.loc, .ld (some 2) (.s 3), (some (.l 5, true))⟩, ⟨.loc, .call .cl (.c (.one (.fn F.affine_Same [] []))) [(.l 1), (.l 0)], (some (.l 6, true))⟩, q (.pick (.l 7) (.l 0) (bo false)), q (.mv (.l 0)), ⟨.loc, .ld (some 2) (.s 3), (some (.l 0, true))⟩, ⟨.loc, .call .cl (.c (.one (.fn F.affine_Times [] []))) [(.l 0), (ik .u64 1)], (some (.l 1, true))⟩, ⟨.loc, .ld (some 2) (.s 3), (some (.l 2, true))⟩, ⟨.loc, .call .cl (.c (.one (.fn F.affine_Same [] []))) [(.l 1), (.l 0)], (some (.l 3, true))⟩, q (.pick (.l 4) (.l 0) (bo false)), q (.mv (.l 0)), ⟨.loc, .ld (some 2) (.s 3), (some (.l 0, true))⟩, ⟨.loc, .call .cl (.c (.one (.fn F.affine_Times [] []))) [(.l 0), (ik .u64 0)], (some (.l 1, true))⟩, ⟨.loc, .bld [.f (.sl []), .f (.lit (.int .u64 0))] [] [], (some (.l 2, true))⟩, ⟨.loc, .call .cl (.c (.one (.fn F.affine_Same [] []))) [(.l 1), (.l 0)], (some (.l 3, true))⟩, q (.pick (.l 4) (.l 0) (bo false)), w 5 (.mv (.l 0))])
   (.ret [f,f,f,f,f,t,f,f]))))) }
def k_locksteplaw17_AffineRing : List Go.Tmp := [0, 1, 2, 3, 4, 6, 8, 28]
theorem c_locksteplaw17_AffineRing : chkFun Go.Proofs.Tryz.prog (drawsOf Go.Proofs.Tryz.prog) k_locksteplaw17_AffineRing Go.Proofs.Tryz.f10 a_locksteplaw17_AffineRing = true := by kernel_rfl

def locksteplaw17_AffineSteps_b0 : Go.A.Code :=
   (.seq (.seq (.reg [q (.mv (.s 8)), q (.mv (.s 4)), w 15 (.bin .lss (.l 1) (.l 0))])
   (.cond (.s 15) .skip
   (.exit 0 [f,t,t,f,t,f,t,t,f,f,f,f,f,f,f,f,f] 1)))
   (.seq (.block 1 (.seq (.reg [q (.mv (.s 6)), q (.mv (.s 5)), q (.mv (.s 8)), q (.bin .add (i 3) (.l 0)), q (.mv (.s 7)), q (.bsl .fz 1 [[.f (.lit (.int .i64 0))], [.f (.lit (.int .i64 0))]] [(0, (.l 0)), (1, (i 2))]), q (.bld [.f (.lit (.int .i64 0)), .f (.lit (.int .i64 0)), .f (.lit (.int .i64 0)), .f (.lit (.int .i64 0)), .f (.sl []), .f (.lit (.int .u64 0))] [(0, 1, (.l 4)), (1, 1, (i 64)), (2, 1, (i 1)), (3, 1, (.l 2)), (4, 1, (.l 0))] []), q (.bsl .fz 6 [[.f (.lit (.int .i64 0)), .f (.lit (.int .i64 0)), .f (.lit (.int .i64 0)), .f (.lit (.int .i64 0)), .f (.sl []), .f (.lit (.int .u64 0))]] [(0, (.l 0))]), q (.app 6 (.l 7) (.l 0)), w 6 (.mv (.l 0))])
   (.reg [q (.mv (.s 8)), q (.bin .add (i 3) (.l 0)), w 7 (.mv (.l 0))])))
   (.reg [q (.mv (.s 8)), q (.bin .add (.l 0) (i 1)), w 8 (.mv (.l 0))])))
def locksteplaw17_AffineSteps_l0 : Go.A.Code := .loop [f,t,t,f,t,t,t,t,t,f,f,f,f,f,f,f,f] 1 locksteplaw17_AffineSteps_b0
theorem locksteplaw17_AffineSteps_l0_eq (T : Nat → Option Entry) (s : St) : exec T locksteplaw17_AffineSteps_l0 s = (exec T locksteplaw17_AffineSteps_b0 s).bind (loopK (exec T locksteplaw17_AffineSteps_l0) [f,t,t,f,t,t,t,t,t,f,f,f,f,f,f,f,f] 1) := exec_loop T s _ _ _
/-- lockstep/locksteplaw17.AffineSteps -/
def a_locksteplaw17_AffineSteps : Fun := { np := 3, nslots := 17, keep := 0, raw := false, results := [(3, none)], body :=
   (.seq (.reg [w 3 (.mv (bo false))])
   (.seq (.seq (.reg [q (.call .cl (.c (.one (.fn F.locksteplaw17_awake [] []))) []), w 13 (.un .not (.l 0))])
   (.cond (.s 13) (.seq (.reg [w 3 (.mv (bo false))])
   (.ret [f,f,f,t,f,f,f,f,f,f,f,f,f,f,f,f,f]))
   .skip))
   (.seq (.reg [q (.mv (.s 0)), q (.conv .i64 (.l 0)), q (.bin .rem (.l 0) (i 60)), w 4 (.mv (.l 0))])
   (.seq (.reg [w 5 (.mv (i 1))])
   (.seq (.seq (.reg [w 14 (.mv (.s 2))])
   (.cond (.s 14) (.reg [w 5 (.mv (i 2))])
   .skip))
   (.seq (.reg [q (.mv (.s 1)), q (.bld [.f (.lit (.int .i64 0)), .f (.lit (.int .i64 0)), .f (.lit (.int .i64 0)), .f (.lit (.int .i64 0)), .f (.sl []), .f (.lit (.int .u64 0))] [(0, 1, (i 0)), (1, 1, (i 64)), (2, 1, (i 1)), (3, 1, (i 2)), (5, 1, (.l 0))] []), q (.bsl .tk 6 [[.f (.lit (.int .i64 0)), .f (.lit (.int .i64 0)), .f (.lit (.int .i64 0)), .f (.lit (.int .i64 0)), .f (.sl []), .f (.lit (.int .u64 0))]] [(0, (.l 0))]), w 6 (.mv (.l 0))])
   (.seq (.reg [w 7 (.mv (i 1))])
   (.seq (.seq (.reg [w 8 (.mv (i 0))])
   (.block 0 locksteplaw17_AffineSteps_l0))
   (.seq (.reg [q (.bsl .fz 1 [[.f (.lit (.int .i64 0))]] [(0, (i 64))]), q (.mv (.s 6)), q (.mv (.s 7)), q (.bld [.f (.lit (.int .i64 0)), .f (.lit (.int .i64 0)), .f (.sl [])] [(0, 1, (i 0)), (1, 1, (.l 0))] []), q (.bld [.f (.sl []), .f (.sl []), .f (.lit (.int .i64 0)), .f (.lit (.int .i64 0)), .f (.sl [])] [(1, 1, (.l 2)), (2, 3, (.l 0))] []), q (.bsl .fz 5 [[.f (.sl []), .f (.sl []), .f (.lit (.int .i64 0)), .f (.lit (.int .i64 0)), .f (.sl [])]] [(0, (.l 0))]), q (.bld [.f (.sl []), .f (.lit (.int .i64 0)), .f (.sl [])] [(0, 1, (.l 5)), (1, 1, (i 64)), (2, 1, (.l 0))] []), w 9 (.al [.f (.sl []), .f (.lit (.int .i64 0)), .f (.sl [])] []), e (.st 3 (.s 9) (.l 1))])
   (.seq (.reg [q (.ld (some 3) (.s 9)), q (.mv (.s 7)), q (.call .cl (.c (.one (.fn F.affine_Of [] []))) [(.l 1), (.l 0)]), q (.mv (.l 0)), q (.ext (.l 0) 0), q (.ext (.l 1) 1), w 10 (.al [.f (.sl []), .f (.lit (.int .u64 0))] []), e (.st 2 (.s 10) (.l 2)), w 11 (.mv (.l 2))])
   (.seq (.reg [q (.mv (.s 1)), q (.mv (.s 4)), q (.conv .u64 (.l 0)), q (.bin .mul (.l 2) (.l 0)), w 12 (.mv (.l 0))])
   (.seq (.seq (.reg [w 16 (.mv (.s 2))])
   (.cond (.s 16) (.reg [q (.mv (.s 12)), q (.bin .sub (ik .u64 0) (.l 0)), w 12 (.mv (.l 0))])
   .skip))
   (.seq (.reg [q (.mv (.s 11)), q (.bin .eql (.l 0) (i 0)), q (.mv (.l 0)), ⟨.loc, .ld (some 2) (.s 10), (some (.l 0, true))⟩, ⟨.loc, .bld [.f (.lit (.int .i64 0)), .f (.lit (.int .u64 0))] [(0, 1, (i 1)), (1, 1, (ik .u64 1))] [], (some (.l 1, true))⟩, ⟨.loc, .bsl .fz 2 [[.f (.lit (.int .i64 0)), .f (.lit (.int .u64 0))]] [(0, (.l 0))], (some (.l 2, true))⟩, ⟨.loc, .mv (.s 12), (some (.l 3, true))⟩, ⟨.loc, .bld [.f (.sl []), .f (.lit (.int .u64 0))] [(0, 1, (.l 1)), (1, 1, (.l 0))] [], (some (.l 4, true))⟩, ⟨.loc, .call .cl (.c (.one (.fn F.affine_Same [] []))) [(.l 4), (.l 0)], (some (.l 5, true))⟩, q (.pick (.l 6) (.l 0) (bo false)), w 3 (.mv (.l 0))])
   (.ret [f,f,f,t,f,f,f,f,f,f,f,f,f,f,f,f,f])))))))))))))) }
def k_locksteplaw17_AffineSteps : List Go.Tmp := [0, 1, 2, 6, 7, 8, 9, 10, 11, 12, 13, 14, 15, 17, 21, 27, 58]
theorem c_locksteplaw17_AffineSteps : chkFun Go.Proofs.Tryz.prog (drawsOf Go.Proofs.Tryz.prog) k_locksteplaw17_AffineSteps Go.Proofs.Tryz.f11 a_locksteplaw17_AffineSteps = true := by kernel_rfl

/-- lockstep/locksteplaw17.AffineScales -/
def a_locksteplaw17_AffineScales : Fun := { np := 2, nslots := 16, keep := 0, raw := false, results := [(2, none)], body :=
   (.seq (.reg [w 2 (.mv (bo false))])
   (.seq (.seq (.reg [q (.call .cl (.c (.one (.fn F.locksteplaw17_awake [] []))) []), w 12 (.un .not (.l 0))])
   (.cond (.s 12) (.seq (.reg [w 2 (.mv (bo false))])
   (.ret [f,f,t,f,f,f,f,f,f,f,f,f,f,f,f,f]))
   .skip))
   (.seq (.reg [q (.bsl .fz 1 [[.f (.lit (.int .i64 0))]] [(0, (i 64))]), q (.mv (.s 0)), q (.bld [.f (.lit (.int .i64 0)), .f (.lit (.int .i64 0)), .f (.lit (.int .i64 0)), .f (.lit (.int .i64 0)), .f (.sl []), .f (.lit (.int .u64 0))] [(0, 1, (i 0)), (1, 1, (i 64)), (2, 1, (i 1)), (3, 1, (i 2)), (5, 1, (.l 0))] []), q (.mv (.s 1)), q (.conv .u64 (.l 0)), q (.bld [.f (.lit (.int .i64 0)), .f (.lit (.int .i64 0)), .f (.lit (.int .i64 0)), .f (.lit (.int .i64 0)), .f (.sl []), .f (.lit (.int .u64 0))] [(0, 1, (i 0)), (1, 1, (i 64)), (2, 1, (i 1)), (3, 1, (i 3)), (5, 1, (.l 0))] []), q (.bsl .fz 1 [[.f (.lit (.int .i64 0))], [.f (.lit (.int .i64 0))]] [(0, (i 1)), (1, (i 2))]), q (.bld [.f (.lit (.int .i64 0)), .f (.lit (.int .i64 0)), .f (.lit (.int .i64 0)), .f (.lit (.int .i64 0)), .f (.sl []), .f (.lit (.int .u64 0))] [(0, 1, (i 1)), (1, 1, (i 64)), (2, 1, (i 1)), (3, 1, (i 4)), (4, 1, (.l 0))] []), q (.bsl .fz 1 [[.f (.lit (.int .i64 0))], [.f (.lit (.int .i64 0))]] [(0, (i 4)), (1, (i 3))]), q (.bld [.f (.lit (.int .i64 0)), .f (.lit (.int .i64 0)), .f (.lit (.int .i64 0)), .f (.lit (.int .i64 0)), .f (.sl []), .f (.lit (.int .u64 0))] [(0, 1, (i 3)), (1, 1, (i 64)), (2, 1, (i 1)), (3, 1, (i 5)), (4, 1, (.l 0))] []), q (.bsl .fz 1 [[.f (.lit (.int .i64 0))], [.f (.lit (.int .i64 0))]] [(0, (i 3)), (1, (i 4))]), q (.bld [.f (.lit (.int .i64 0)), .f (.lit (.int .i64 0)), .f (.lit (.int .i64 0)), .f (.lit (.int .i64 0)), .f (.sl []), .f (.lit (.int .u64 0))] [(0, 1, (i 3)), (1, 1, (i 64)), (2, 1, (i 1)), (3, 1, (i 6)), (4, 1, (.l 0))] []), q (.bsl .fz 1 [[.f (.lit (.int .i64 0))], [.f (.lit (.int .i64 0))]] [(0, (i 4)), (1, (i 3))]), q (.bld [.f (.lit (.int .i64 0)), .f (.lit (.int .i64 0)), .f (.lit (.int .i64 0)), .f (.lit (.int .i64 0)), .f (.sl []), .f (.lit (.int .u64 0))] [(0, 1, (i 8)), (1, 1, (i 64)), (2, 1, (i 1)), (3, 1, (i 7)), (4, 1, (.l 0))] []), q (.bsl .fz 6 [[.f (.lit (.int .i64 0)), .f (.lit (.int .i64 0)), .f (.lit (.int .i64 0)), .f (.lit (.int .i64 0)), .f (.sl []), .f (.lit (.int .u64 0))], [.f (.lit (.int .i64 0)), .f (.lit (.int .i64 0)), .f (.lit (.int .i64 0)), .f (.lit (.int .i64 0)), .f (.sl []), .f (.lit (.int .u64 0))], [.f (.lit (.int .i64 0)), .f (.lit (.int .i64 0)), .f (.lit (.int .i64 0)), .f (.lit (.int .i64 0)), .f (.sl []), .f (.lit (.int .u64 0))], [.f (.lit (.int .i64 0)), .f (.lit (.int .i64 0)), .f (.lit (.int .i64 0)), .f (.lit (.int .i64 0)), .f (.sl []), .f (.lit (.int .u64 0))], [.f (.lit (.int .i64 0)), .f (.lit (.int .i64 0)), .f (.lit (.int .i64 0)), .f (.lit (.int .i64 0)), .f (.sl []), .f (.lit (.int .u64 0))], [.f (.lit (.int .i64 0)), .f (.lit (.int .i64 0)), .f (.lit (.int .i64 0)), .f (.lit (.int .i64 0)), .f (.sl []), .f (.lit (.int .u64 0))]] [(0, (.l 11)), (1, (.l 8)), (2, (.l 6)), (3, (.l 4)), (4, (.l 2)), (5, (.l 0))]), q (.bld [.f (.lit (.int .i64 0)), .f (.lit (.int .i64 0)), .f (.sl [])] [(0, 1, (i 0)), (1, 1, (i 7))] []), q (.bld [.f (.sl []), .f (.sl []), .f (.lit (.int .i64 0)), .f (.lit (.int .i64 0)), .f (.sl [])] [(1, 1, (.l 1)), (2, 3, (.l 0))] []), q (.bsl .fz 5 [[.f (.sl []), .f (.sl []), .f (.lit (.int .i64 0)), .f (.lit (.int .i64 0)), .f (.sl [])]] [(0, (.l 0))]), q (.bld [.f (.sl []), .f (.lit (.int .i64 0)), .f (.sl [])] [(0, 1, (.l 17)), (1, 1, (i 64)), (2, 1, (.l 0))] []), w 3 (.al [.f (.sl []), .f (.lit (.int .i64 0)), .f (.sl [])] []), e (.st 3 (.s 3) (.l 1))])
   (.seq (.reg [q (.ld (some 3) (.s 3)), q (.call .cl (.c (.one (.fn F.affine_Of [] []))) [(.l 0), (i 4)]), q (.mv (.l 0)), q (.ext (.l 0) 0), q (.ext (.l 1) 1), w 4 (.al [.f (.sl []), .f (.lit (.int .u64 0))] []), e (.st 2 (.s 4) (.l 2)), w 5 (.mv (.l 2))])
   (.seq (.reg [q (.ld (some 3) (.s 3)), q (.call .cl (.c (.one (.fn F.affine_Of [] []))) [(.l 0), (i 5)]), q (.mv (.l 0)), q (.ext (.l 0) 0), q (.ext (.l 1) 1), w 6 (.al [.f (.sl []), .f (.lit (.int .u64 0))] []), e (.st 2 (.s 6) (.l 2)), w 7 (.mv (.l 2))])
   (.seq (.reg [q (.ld (some 3) (.s 3)), q (.call .cl (.c (.one (.fn F.affine_Of [] []))) [(.l 0), (i 6)]), q (.mv (.l 0)), q (.ext (.l 0) 0), q (.ext (.l 1) 1), w 8 (.al [.f (.sl []), .f (.lit (.int .u64 0))] []), e (.st 2 (.s 8) (.l 2)), w 9 (.mv (.l 2))])
   (.seq (.reg [q (.ld (some 3) (.s 3)), q (.call .cl (.c (.one (.fn F.affine_Of [] []))) [(.l 0), (i 7)]), q (.mv (.l 0)), q (.ext (.l 0) 0), q (.ext (.l 1) 1), w 10 (.al [.f (.sl []), .f (.lit (.int .u64 0))] []), e (.st 2 (.s 10) (.l 2)), w 11 (.mv (.l 2))])
   (.seq (.seq (.reg [q (.mv (.s 5)), q (.bin .neq (.l 0) (i 0)), q (.mv (.l 0)), ⟨.loc, .mv (.s 7), (some (.l 0, false))⟩, ⟨.loc, .bin .neq (.l 0) (i 0), (some (.l 1, false))⟩, q (.pick (.l 2) (bo true) (.l 0)), q (.mv (.l 0)), ⟨.loc, .mv (.s 9), (some (.l 0, false))⟩, ⟨.loc, .bin .neq (.l 0) (i 0), (some (.l 1, false))⟩, q (.pick (.l 2) (bo true) (.l 0)), q (.mv (.l 0)), ⟨.loc, .mv (.s 11), (some (.l 0, false))⟩, ⟨.loc, .bin .neq (.l 0) (i 0), (some (.l 1, false))⟩, q (.pick (.l 2) (bo true) (.l 0)), q (.mv (.l 0)), ⟨.loc, .ld (some 2) (.s 4), (some (.l 0, false))⟩, ⟨.loc, .call .cl (.c (.one (.fn F.lockstepref17_May [] []))) [(.l 0)], (some (.l 1, false))⟩, ⟨.loc, .un .not (.l 0), (some (.l 2, false))⟩, w 13 (.pick (.l 3) (bo true) (.l 0))])
   (.cond (.s 13) (.seq (.reg [w 2 (.mv (bo false))])
   (.ret [f,f,t,f,f,f,f,f,f,f,f,f,f,f,f,f]))
   .skip))
   (.seq (.seq (.reg [q (.ld (some 2) (.s 6)), q (.ld (some 2) (.s 4)), q (.mv (.s 1)), q (.conv .u64 (.l 0)), q (.call .cl (.c (.one (.fn F.affine_Times [] []))) [(.l 2), (.l 0)]), q (.call .cl (.c (.one (.fn F.affine_Same [] []))) [(.l 4), (.l 0)]), q (.un .not (.l 0)), q (.mv (.l 0)), ⟨.loc, .ld (some 2) (.s 8), (some (.l 0, false))⟩, ⟨.loc, .ld (some 2) (.s 6), (some (.l 1, false))⟩, ⟨.loc, .call .cl (.c (.one (.fn F.affine_Same [] []))) [(.l 1), (.l 0)], (some (.l 2, false))⟩, ⟨.loc, .un .not (.l 0), (some (.l 3, false))⟩, w 14 (.pick (.l 4) (bo true) (.l 0))])
   (.cond (.s 14) (.seq (.reg [w 2 (.mv (bo false))])
   (.ret [f,f,t,f,f,f,f,f,f,f,f,f,f,f,f,f]))
   .skip))
   (.seq (.seq (.reg [q (.mv (.s 1)), w 15 (.bin .geq (.l 0) (ik .u8 64))])
   (.cond (.s 15) (.seq (.reg [q (.ld (some 2) (.s 10)), q (.bld [.f (.lit (.int .i64 0)), .f (.lit (.int .u64 0))] [(0, 1, (i 7)), (1, 1, (ik .u64 1))] []), q (.bsl .fz 2 [[.f (.lit (.int .i64 0)), .f (.lit (.int .u64 0))]] [(0, (.l 0))]), q (.bld [.f (.sl []), .f (.lit (.int .u64 0))] [(0, 1, (.l 0))] []), q (.call .cl (.c (.one (.fn F.affine_Same [] []))) [(.l 3), (.l 0)]), w 2 (.mv (.l 0))])
   (.ret [f,f,t,f,f,f,f,f,f,f,f,f,f,f,f,f]))
   .skip))
   (.seq (.reg [q (.ld (some 2) (.s 10)), q (.ld (some 2) (.s 4)), q (.mv (.s 1)), q (.conv .u64 (.l 0)), q (.bin .shl (ik .u64 1) (.l 0)), q (.call .cl (.c (.one (.fn F.affine_Times [] []))) [(.l 3), (.l 0)]), q (.call .cl (.c (.one (.fn F.affine_Same [] []))) [(.l 5), (.l 0)]), w 2 (.mv (.l 0))])
   (.ret [f,f,t,f,f,f,f,f,f,f,f,f,f,f,f,f])))))))))))) }
def k_locksteplaw17_AffineScales : List Go.Tmp := [0, 1, 4, 5, 6, 7, 8, 9, 10, 11, 12, 13, 15, 73, 86, 88]
theorem c_locksteplaw17_AffineScales : chkFun Go.Proofs.Tryz.prog (drawsOf Go.Proofs.Tryz.prog) k_locksteplaw17_AffineScales Go.Proofs.Tryz.f12 a_locksteplaw17_AffineScales = true := by kernel_rfl

/-- lockstep/locksteplaw19.awake -/
def a_locksteplaw19_awake : Fun := { np := 0, nslots := 5, keep := 0, raw := false, results := [(0, none)], body :=
   (.seq (.reg [w 0 (.mv (bo false))])
   (.seq (.reg [q (.bld [.f (.lit (.int .i64 0)), .f (.lit (.int .i64 0)), .f (.lit (.int .i64 0)), .f (.lit (.int .i64 0)), .f (.sl []), .f (.lit (.int .u64 0))] [(0, 1, (i 0)), (1, 1, (i 8)), (2, 1, (i 1)), (3, 1, (i 1)), (5, 1, (ik .u64 7))] []), q (.bld [.f (.lit (.int .i64 0)), .f (.lit (.int .i64 0)), .f (.lit (.int .i64 0)), .f (.lit (.int .i64 0)), .f (.sl []), .f (.lit (.int .u64 0))] [(0, 1, (i 0)), (1, 1, (i 8)), (2, 1, (i 1)), (3, 1, (i 2)), (5, 1, (ik .u64 8))] []), q (.bsl .fz 1 [[.f (.lit (.int .i64 0))], [.f (.lit (.int .i64 0))]] [(0, (i 1)), (1, (i 2))]), q (.bld [.f (.lit (.int .i64 0)), .f (.lit (.int .i64 0)), .f (.lit (.int .i64 0)), .f (.lit (.int .i64 0)), .f (.sl []), .f (.lit (.int .u64 0))] [(0, 1, (i 1)), (1, 1, (i 8)), (2, 1, (i 1)), (3, 1, (i 3)), (4, 1, (.l 0))] []), q (.bsl .fz 6 [[.f (.lit (.int .i64 0)), .f (.lit (.int .i64 0)), .f (.lit (.int .i64 0)), .f (.lit (.int .i64 0)), .f (.sl []), .f (.lit (.int .u64 0))], [.f (.lit (.int .i64 0)), .f (.lit (.int .i64 0)), .f (.lit (.int .i64 0)), .f (.lit (.int .i64 0)), .f (.sl []), .f (.lit (.int .u64 0))], [.f (.lit (.int .i64 0)), .f (.lit (.int .i64 0)), .f (.lit (.int .i64 0)), .f (.lit (.int .i64 0)), .f (.sl []), .f (.lit (.int .u64 0))]] [(0, (.l 3)), (1, (.l 2)), (2, (.l 0))]), q (.bld [.f (.lit (.int .i64 0)), .f (.lit (.int .i64 0)), .f (.sl [])] [(0, 1, (i 0)), (1, 1, (i 3))] []), q (.bld [.f (.sl []), .f (.sl []), .f (.lit (.int .i64 0)), .f (.lit (.int .i64 0)), .f (.sl [])] [(1, 1, (.l 1)), (2, 3, (.l 0))] []), q (.bsl .fz 5 [[.f (.sl []), .f (.sl []), .f (.lit (.int .i64 0)), .f (.lit (.int .i64 0)), .f (.sl [])]] [(0, (.l 0))]), q (.bld [.f (.sl []), .f (.lit (.int .i64 0)), .f (.sl [])] [(1, 1, (i 8)), (2, 1, (.l 0))] []), w 1 (.al [.f (.sl []), .f (.lit (.int .i64 0)), .f (.sl [])] []), e (.st 3 (.s 1) (.l 1))])
   (.seq (.reg [q (.ld (some 3) (.s 1)), q (.bsl .fz 1 [[.f (.lit (.int .i64 0))], [.f (.lit (.int .i64 0))], [.f (.lit (.int .i64 0))]] [(0, (i 1)), (1, (i 0)), (2, (i 2))]), q (.call .cl (.c (.one (.fn F.sched_Put [] []))) [(.l 1), (i 0), (.l 0)]), q (.mv (.l 0)), q (.ext (.l 0) 0), q (.ext (.l 1) 1), w 2 (.al [.f (.sl []), .f (.lit (.int .i64 0)), .f (.sl [])] []), e (.st 3 (.s 2) (.l 2)), w 3 (.mv (.l 2))])
   (.seq (.reg [q (.ld (some 3) (.s 1)), q (.bsl .fz 1 [[.f (.lit (.int .i64 0))], [.f (.lit (.int .i64 0))], [.f (.lit (.int .i64 0))]] [(0, (i 2)), (1, (i 0)), (2, (i 1))]), q (.call .cl (.c (.one (.fn F.sched_Put [] []))) [(.l 1), (i 0), (.l 0)]), q (.mv (.l 0)), q (.ext (.l 0) 0), q (.ext (.l 1) 1), q (.al [.f (.sl []), .f (.lit (.int .i64 0)), .f (.sl [])] []), e (.st 3 (.l 0) (.l 2)), w 4 (.mv (.l 2))])
   (.seq (.reg [q (.mv (.s 3)), q (.bin .eql (.l 0) (i 0)), q (.mv (.l 0)), ⟨.loc, .fa 2 (.s 2), (some (.l 0, true))⟩, ⟨.loc, .ld none (.l 0), (some (.l 1, true))⟩, ⟨.loc, .len (.l 0), (some (.l 2, true))⟩, ⟨.loc, .bin .eql (.l 0) (i 1), (some (.l 3, true))⟩, q (.pick (.l 4) (.l 0) (bo false)), q (.mv (.l 0)), ⟨.loc, .fa 2 (.s 2), (some (.l 0, true))⟩, ⟨.loc, .ld none (.l 0), (some (.l 1, true))⟩, ⟨.loc, .ia 5 (.l 0) (i 0), (some (.l 2, true))⟩, ⟨.loc, .fa 1 (.l 0), (some (.l 3, true))⟩, ⟨.loc, .ld none (.l 0), (some (.l 4, true))⟩, ⟨.loc, .len (.l 0), (some (.l 5, true))⟩, ⟨.loc, .bin .eql (.l 0) (i 3), (some (.l 6, true))⟩, q (.pick (.l 7) (.l 0) (bo false)), q (.mv (.l 0)), ⟨.loc, .fa 2 (.s 2), (some (.l 0, true))⟩, ⟨.loc, .ld none (.l 0), (some (.l 1, true))⟩, ⟨.loc, .ia 5 (.l 0) (i 0), (some (.l 2, true))⟩, ⟨.loc, .fa 1 (.l 0), (some (.l 3, true))⟩, ⟨.loc, .ld none (.l 0), (some (.l 4, true))⟩, ⟨.loc, .ia 6 (.l 0) (i 0), (some (.l 5, true))⟩, ⟨.loc, .fa 3 (.l 0), (some (.l 6, true))⟩, ⟨.loc, .ld none (.l 0), (some (.l 7, true))⟩, ⟨.loc, .bin .eql (.l 0) (i 2), (some (.l 8, true))⟩, q (.pick (.l 9) (.l 0) (bo false)), q (.mv (.l 0)), ⟨.loc, .mv (.s 4), (some (.l 0, true))⟩, ⟨.loc, .bin .eql (.l 0) (i 10), (some (.l 1, true))⟩, q (.pick (.l 2) (.l 0) (bo false)), q (.mv (.l 0)), ⟨.loc, .ld (some 3) (.s 1), (some (.l 0, true))⟩, ⟨.loc, .call .cl (.c (.one (.fn F.sched_Hangs [] []))) [(.l 0), (i 0), (i 2)], (some (.l 1, true))⟩, ⟨.loc, .bsl .fz 1 [[.f (.lit (.int .i64 0))], [.f (.lit (.int .i64 0))]] [(0, (i 0)), (1, (i 1))], (some (.l 2, true))⟩, ⟨.loc, .call .cl (.c (.one (.fn F.lockstepref02_Ints [] []))) [(.l 1), (.l 0)], (some (.l 3, true))⟩, q (.pick (.l 4) (.l 0) (bo false)), q (.mv (.l 0)), ⟨.loc, .ld (some 3) (.s 1), (some (.l 0, true))⟩, ⟨.loc, .call .cl (.c (.one (.fn F.sched_Flat [] []))) [(.l 0), (i 0)], (some (.l 1, true))⟩, ⟨.loc, .bsl .fz 1 [[.f (.lit (.int .i64 0))], [.f (.lit (.int .i64 0))], [.f (.lit (.int .i64 0))]] [(0, (i 0)), (1, (i 1)), (2, (i 2))], (some (.l 2, true))⟩, ⟨.loc, .call .cl (.c (.one (.fn F.lockstepref02_Ints [] []))) [(.l 1), (.l 0)], (some (.l 3, true))⟩, q (.pick (.l 4) (.l 0) (bo false)), q (.mv (.l 0)), ⟨.loc, .ld (some 3) (.s 1), (some (.l 0, true))⟩, ⟨.loc, .call .cl (.c (.one (.fn F.sched_Depth [] []))) [(.l 0), (i 0)], (some (.l 1, true))⟩, ⟨.loc, .bsl .fz 1 [[.f (.lit (.int .i64 0))], [.f (.lit (.int .i64 0))], [.f (.lit (.int .i64 0))]] [(0, (i 0)), (1, (i 0)), (2, (i 1))], (some (.l 2, true))⟩, ⟨.loc, .call .cl (.c (.one (.fn F.lockstepref02_Ints [] []))) [(.l 1), (.l 0)], (some (.l 3, true))⟩, q (.pick (.l 4) (.l 0) (bo false)), w 0 (.mv (.l 0))])
   (.ret [t,f,f,f,f])))))) }
def k_locksteplaw19_awake : List Go.Tmp := [0, 1, 2, 3, 5]
theorem c_locksteplaw19_awake : chkFun Go.Proofs.Tryz.prog (drawsOf Go.Proofs.Tryz.prog) k_locksteplaw19_awake Go.Proofs.Tryz.f13 a_locksteplaw19_awake = true := by kernel_rfl

def lockstepref11_Small_b0 : Go.A.Code :=
   (.seq (.seq (.reg [q (.mv (.s 4)), q (.fa 2 (.s 1)), q (.ld none (.l 0)), q (.len (.l 0)), w 5 (.bin .lss (.l 3) (.l 0))])
   (.cond (.s 5) .skip
   (.exit 0 [f,t,f,t,f,f] 1)))
   (.seq (.block 1 (.reg [q (.mv (.s 3)), q (.bin .add (.l 0) (i 1)), q (.fa 2 (.s 1)), q (.ld none (.l 0)), q (.mv (.s 4)), q (.ia 5 (.l 1) (.l 0)), q (.fa 1 (.l 0)), q (.ld none (.l 0)), q (.len (.l 0)), q (.bin .add (.l 7) (.l 0)), q (.fa 2 (.s 1)), q (.ld none (.l 0)), q (.mv (.s 4)), q (.ia 5 (.l 1) (.l 0)), q (.fa 0 (.l 0)), q (.ld none (.l 0)), q (.len (.l 0)), q (.bin .add (.l 7) (.l 0)), w 3 (.mv (.l 0))]))
   (.reg [q (.mv (.s 4)), q (.bin .add (.l 0) (i 1)), w 4 (.mv (.l 0))])))
def lockstepref11_Small_l0 : Go.A.Code := .loop [f,t,f,t,t,f] 1 lockstepref11_Small_b0
theorem lockstepref11_Small_l0_eq (T : Nat → Option Entry) (s : St) : exec T lockstepref11_Small_l0 s = (exec T lockstepref11_Small_b0 s).bind (loopK (exec T lockstepref11_Small_l0) [f,t,f,t,t,f] 1) := exec_loop T s _ _ _
/-- lockstep/lockstepref11.Small -/
def a_lockstepref11_Small : Fun := { np := 1, nslots := 6, keep := 0, raw := false, results := [(2, none)], body :=
   (.seq (.reg [w 1 (.box 3 (.s 0)), w 2 (.mv (bo false))])
   (.seq (.reg [w 3 (.mv (i 0))])
   (.seq (.seq (.reg [w 4 (.mv (i 0))])
   (.block 0 lockstepref11_Small_l0))
   (.seq (.reg [q (.ld (some 3) (.s 1)), q (.call .cl (.c (.one (.fn F.lockstepref04_Small [] []))) [(.l 0)]), q (.mv (.l 0)), ⟨.loc, .fa 2 (.s 1), (some (.l 0, true))⟩, ⟨.loc, .ld none (.l 0), (some (.l 1, true))⟩, ⟨.loc, .len (.l 0), (some (.l 2, true))⟩, ⟨.loc, .bin .leq (.l 0) (i 16), (some (.l 3, true))⟩, ⟨.loc, .mv (.l 0), (some (.l 4, true))⟩, ⟨.loc, .mv (.s 3), (some (.l 0, true))⟩, ⟨.loc, .bin .leq (.l 0) (i 100), (some (.l 1, true))⟩, ⟨.loc, .pick (.l 2) (.l 0) (bo false), (some (.l 7, true))⟩, ⟨.loc, .mv (.l 0), (some (.l 8, true))⟩, ⟨.loc, .fa 2 (.s 1), (some (.l 0, false))⟩, ⟨.loc, .ld none (.l 0), (some (.l 1, false))⟩, ⟨.loc, .len (.l 0), (some (.l 2, false))⟩, ⟨.loc, .bin .gtr (.l 0) (i 64), (some (.l 3, false))⟩, ⟨.loc, .pick (.l 4) (bo true) (.l 0), (some (.l 13, true))⟩, ⟨.loc, .mv (.l 0), (some (.l 14, true))⟩, ⟨.loc, .mv (.s 3), (some (.l 0, false))⟩, ⟨.loc, .bin .gtr (.l 0) (i 512), (some (.l 1, false))⟩, ⟨.loc, .pick (.l 2) (bo true) (.l 0), (some (.l 17, true))⟩, q (.pick (.l 18) (.l 0) (bo false)), w 2 (.mv (.l 0))])
   (.ret [f,f,t,f,f,f]))))) }
def k_lockstepref11_Small : List Go.Tmp := [0, 1, 2, 3, 4, 9]
theorem c_lockstepref11_Small : chkFun Go.Proofs.Tryz.prog (drawsOf Go.Proofs.Tryz.prog) k_lockstepref11_Small Go.Proofs.Tryz.f14 a_lockstepref11_Small = true := by kernel_rfl

def sched_Put_b0 : Go.A.Code :=
   (.seq (.reg [w 13 (.bin .lss (.s 12) (.s 11))])
   (.seq (.cond (.s 13) .skip
   (.exit 0 [f,t,f,t,t,f,t,f,f,f,f,f,f,f] 3))
   (.seq (.block 1 (.seq (.reg [q (.ia 1 (.s 10) (.s 12)), q (.ld none (.l 0)), w 7 (.mv (.l 0))])
   (.reg [q (.mv (.s 6)), q (.fa 2 (.s 3)), q (.ld none (.l 0)), q (.mv (.s 1)), q (.ia 5 (.l 1) (.l 0)), q (.fa 1 (.l 0)), q (.ld none (.l 0)), q (.mv (.s 7)), q (.ia 6 (.l 1) (.l 0)), q (.ld (some 6) (.l 0)), q (.bsl .fz 6 [[.f (.lit (.int .i64 0)), .f (.lit (.int .i64 0)), .f (.lit (.int .i64 0)), .f (.lit (.int .i64 0)), .f (.sl []), .f (.lit (.int .u64 0))]] [(0, (.l 0))]), q (.app 6 (.l 10) (.l 0)), w 6 (.mv (.l 0))])))
   (.reg [q (.bin .add (.s 12) (i 1)), w 12 (.mv (.l 0))]))))
def sched_Put_l0 : Go.A.Code := .loop [f,t,f,t,t,f,t,f,f,f,t,t,t,f] 3 sched_Put_b0
theorem sched_Put_l0_eq (T : Nat → Option Entry) (s : St) : exec T sched_Put_l0 s = (exec T sched_Put_b0 s).bind (loopK (exec T sched_Put_l0) [f,t,f,t,t,f,t,f,f,f,t,t,t,f] 3) := exec_loop T s _ _ _
/-- lockstep/sched.Put -/
def a_sched_Put : Fun := { np := 3, nslots := 14, keep := 0, raw := false, results := [(4, some (some 3)), (5, none)], body :=
   (.seq (.reg [w 3 (.box 3 (.s 0)), w 4 (.al [.f (.sl []), .f (.lit (.int .i64 0)), .f (.sl [])] []), w 5 (.mv (i 0))])
   (.seq (.seq (.reg [q (.ld (some 3) (.s 3)), q (.mv (.s 1)), q (.mv (.s 2)), q (.call .cl (.c (.one (.fn F.sched_Legal [] []))) [(.l 2), (.l 1), (.l 0)]), w 9 (.un .not (.l 0))])
   (.cond (.s 9) (.seq (.reg [q (.bld [.f (.sl []), .f (.lit (.int .i64 0)), .f (.sl [])] [] []), e (.st 3 (.s 4) (.l 0)), w 5 (.mv (i 10))])
   (.ret [f,f,f,f,t,t,f,f,f,f,f,f,f,f]))
   .skip))
   (.seq (.reg [w 6 (.nl .tk 6)])
   (.seq (.seq (.reg [w 10 (.mv (.s 2)), w 11 (.len (.s 10)), w 12 (.mv (i 0))])
   (.block 0 sched_Put_l0))
   (.seq (.reg [q (.ld (some 3) (.s 3)), w 8 (.al [.f (.sl []), .f (.lit (.int .i64 0)), .f (.sl [])] []), e (.st 3 (.s 8) (.l 1))])
   (.seq (.reg [q (.fa 2 (.s 3)), q (.ld none (.l 0)), q (.call .cl (.c (.one (.fn F.slices_Clone_Block [] []))) [(.l 0)]), q (.fa 2 (.s 8)), e (.st 1 (.l 0) (.l 1))])
   (.seq (.reg [q (.fa 2 (.s 8)), q (.ld none (.l 0)), q (.mv (.s 1)), q (.mv (.s 6)), q (.ia 5 (.l 2) (.l 1)), q (.fa 1 (.l 0)), e (.st 1 (.l 0) (.l 2))])
   (.seq (.reg [q (.ld (some 3) (.s 8)), e (.st 3 (.s 4) (.l 0)), w 5 (.mv (i 0))])
   (.ret [f,f,f,f,t,t,f,f,f,f,f,f,f,f]))))))))) }
def k_sched_Put : List Go.Tmp := [0, 1, 2, 3, 6, 7, 8, 10, 11, 16, 18, 19, 20, 21]
theorem c_sched_Put : chkFun Go.Proofs.Tryz.prog (drawsOf Go.Proofs.Tryz.prog) k_sched_Put Go.Proofs.Tryz.f15 a_sched_Put = true := by kernel_rfl

def lockstepref19_Put_b0 : Go.A.Code :=
   (.seq (.seq (.reg [q (.mv (.s 7)), q (.mv (.s 2)), q (.len (.l 0)), w 9 (.bin .lss (.l 2) (.l 0))])
   (.cond (.s 9) .skip
   (.exit 0 [f,f,f,f,t,f,t,f,f,f] 4)))
   (.seq (.block 1 (.regd [(1, 23)] [q (.fa 2 (.s 6)), q (.ld none (.l 0)), q (.mv (.s 1)), q (.fa 2 (.s 6)), q (.ld none (.l 0)), q (.mv (.s 1)), q (.ia 5 (.l 1) (.l 0)), q (.fa 1 (.l 0)), q (.ld none (.l 0)), q (.fa 2 (.s 3)), q (.ld none (.l 0)), q (.mv (.s 1)), q (.ia 5 (.l 1) (.l 0)), q (.fa 1 (.l 0)), q (.ld none (.l 0)), q (.mv (.s 2)), q (.mv (.s 7)), q (.ia 1 (.l 1) (.l 0)), q (.ld none (.l 0)), q (.ia 6 (.l 4) (.l 0)), q (.ld (some 6) (.l 0)), q (.bsl .fz 6 [[.f (.lit (.int .i64 0)), .f (.lit (.int .i64 0)), .f (.lit (.int .i64 0)), .f (.lit (.int .i64 0)), .f (.sl []), .f (.lit (.int .u64 0))]] [(0, (.l 0))]), q (.app 6 (.l 13) (.l 0)), q (.ia 5 (.l 21) (.l 20)), q (.fa 1 (.l 0)), e (.st 1 (.l 0) (.l 2))]))
   (.reg [q (.mv (.s 7)), q (.bin .add (.l 0) (i 1)), w 7 (.mv (.l 0))])))
def lockstepref19_Put_l0 : Go.A.Code := .loop [f,t,t,t,t,f,t,t,f,f] 4 lockstepref19_Put_b0
theorem lockstepref19_Put_l0_eq (T : Nat → Option Entry) (s : St) : exec T lockstepref19_Put_l0 s = (exec T lockstepref19_Put_b0 s).bind (loopK (exec T lockstepref19_Put_l0) [f,t,t,t,t,f,t,t,f,f] 4) := exec_loop T s _ _ _
/-- lockstep/lockstepref19.Put -/
def a_lockstepref19_Put : Fun := { np := 3, nslots := 10, keep := 0, raw := false, results := [(4, some (some 3)), (5, none)], body :=
   (.seq (.reg [w 3 (.box 3 (.s 0)), w 4 (.al [.f (.sl []), .f (.lit (.int .i64 0)), .f (.sl [])] []), w 5 (.mv (i 0))])
   (.seq (.seq (.reg [q (.ld (some 3) (.s 3)), q (.mv (.s 1)), q (.mv (.s 2)), q (.call .cl (.c (.one (.fn F.lockstepref19_Legal [] []))) [(.l 2), (.l 1), (.l 0)]), w 8 (.un .not (.l 0))])
   (.cond (.s 8) (.seq (.reg [q (.bld [.f (.sl []), .f (.lit (.int .i64 0)), .f (.sl [])] [] []), e (.st 3 (.s 4) (.l 0)), w 5 (.mv (i 10))])
   (.ret [f,f,f,f,t,t,f,f,f,f]))
   .skip))
   (.seq (.regd [(1, 9), (1, 10), (3, 9), (3, 10)] [q (.fa 0 (.s 3)), q (.ld none (.l 0)), q (.fa 1 (.s 3)), q (.ld none (.l 0)), q (.bsl .tk 5 [] []), q (.fa 2 (.s 3)), q (.ld none (.l 0)), q (.app 5 (.l 2) (.l 0)), q (.bld [.f (.sl []), .f (.lit (.int .i64 0)), .f (.sl [])] [(0, 1, (.l 6)), (1, 1, (.l 4)), (2, 1, (.l 0))] []), w 6 (.al [.f (.sl []), .f (.lit (.int .i64 0)), .f (.sl [])] []), e (.st 3 (.s 6) (.l 1))])
   (.seq (.reg [q (.fa 2 (.s 6)), q (.ld none (.l 0)), q (.mv (.s 1)), q (.ia 5 (.l 1) (.l 0)), q (.fa 1 (.l 0)), e (.st 1 (.l 0) (.c (.one (.f (.sl [])))))])
   (.seq (.seq (.reg [w 7 (.mv (i 0))])
   (.block 0 lockstepref19_Put_l0))
   (.seq (.reg [q (.ld (some 3) (.s 6)), e (.st 3 (.s 4) (.l 0)), w 5 (.mv (i 0))])
   (.ret [f,f,f,f,t,t,f,f,f,f]))))))) }
def k_lockstepref19_Put : List Go.Tmp := [0, 1, 2, 3, 6, 7, 8, 9, 14, 33]
theorem c_lockstepref19_Put : chkFun Go.Proofs.Tryz.prog (drawsOf Go.Proofs.Tryz.prog) k_lockstepref19_Put Go.Proofs.Tryz.f16 a_lockstepref19_Put = true := by kernel_rfl

def lockstepref04_Same_b0 : Go.A.Code :=
   (.seq (.seq (.reg [q (.mv (.s 8)), q (.fa 0 (.s 6)), q (.ld none (.l 0)), q (.len (.l 0)), w 15 (.bin .lss (.l 3) (.l 0))])
   (.cond (.s 15) .skip
   (.exit 2 [f,f,t,t,f,t,t,t,f,f,f,f,f,f,f,f,f,f,f] 4)))
   (.seq (.block 3 (.seq (.reg [q (.fa 0 (.s 6)), q (.ld none (.l 0)), q (.mv (.s 8)), q (.ia 4 (.l 1) (.l 0)), q (.ld (some 4) (.l 0)), w 9 (.al [.f (.lit (.int .i64 0)), .f (.lit (.int .i64 0)), .f (.sl []), .f (.sl [])] []), e (.st 4 (.s 9) (.l 1))])
   (.seq (.reg [q (.fa 0 (.s 7)), q (.ld none (.l 0)), q (.mv (.s 8)), q (.ia 4 (.l 1) (.l 0)), q (.ld (some 4) (.l 0)), w 10 (.al [.f (.lit (.int .i64 0)), .f (.lit (.int .i64 0)), .f (.sl []), .f (.sl [])] []), e (.st 4 (.s 10) (.l 1))])
   (.seq (.reg [q (.fa 0 (.s 9)), q (.ld none (.l 0)), q (.fa 0 (.s 10)), q (.ld none (.l 0)), q (.bin .neq (.l 2) (.l 0)), q (.mv (.l 0)), ⟨.loc, .fa 1 (.s 9), (some (.l 0, false))⟩, ⟨.loc, .ld none (.l 0), (some (.l 1, false))⟩, ⟨.loc, .fa 1 (.s 10), (some (.l 2, false))⟩, ⟨.loc, .ld none (.l 0), (some (.l 3, false))⟩, ⟨.loc, .bin .neq (.l 2) (.l 0), (some (.l 4, false))⟩, q (.pick (.l 5) (bo true) (.l 0)), q (.mv (.l 0)), ⟨.loc, .fa 2 (.s 9), (some (.l 0, false))⟩, ⟨.loc, .ld none (.l 0), (some (.l 1, false))⟩, ⟨.loc, .fa 2 (.s 10), (some (.l 2, false))⟩, ⟨.loc, .ld none (.l 0), (some (.l 3, false))⟩, ⟨.loc, .call .cl (.c (.one (.fn F.lockstepref02_Ints [] []))) [(.l 2), (.l 0)], (some (.l 4, false))⟩, ⟨.loc, .un .not (.l 0), (some (.l 5, false))⟩, q (.pick (.l 6) (bo true) (.l 0)), q (.mv (.l 0)), ⟨.loc, .fa 3 (.s 9), (some (.l 0, false))⟩, ⟨.loc, .ld none (.l 0), (some (.l 1, false))⟩, ⟨.loc, .fa 3 (.s 10), (some (.l 2, false))⟩, ⟨.loc, .ld none (.l 0), (some (.l 3, false))⟩, ⟨.loc, .call .cl (.c (.one (.fn F.lockstepref02_Ints [] []))) [(.l 2), (.l 0)], (some (.l 4, false))⟩, ⟨.loc, .un .not (.l 0), (some (.l 5, false))⟩, w 16 (.pick (.l 6) (bo true) (.l 0))])
   (.cond (.s 16) (.seq (.reg [w 4 (.mv (bo false))])
   (.ret [f,f,f,f,t,f,f,f,f,f,f,f,f,f,f,f,f,f,f]))
   .skip)))))
   (.reg [q (.mv (.s 8)), q (.bin .add (.l 0) (i 1)), w 8 (.mv (.l 0))])))
def lockstepref04_Same_l0 : Go.A.Code := .loop [f,f,t,t,f,t,t,t,t,f,f,f,f,f,f,f,f,f,f] 4 lockstepref04_Same_b0
theorem lockstepref04_Same_l0_eq (T : Nat → Option Entry) (s : St) : exec T lockstepref04_Same_l0 s = (exec T lockstepref04_Same_b0 s).bind (loopK (exec T lockstepref04_Same_l0) [f,f,t,t,f,t,t,t,t,f,f,f,f,f,f,f,f,f,f] 4) := exec_loop T s _ _ _
def lockstepref04_Same_b1 : Go.A.Code :=
   (.seq (.seq (.reg [q (.mv (.s 11)), q (.fa 1 (.s 6)), q (.ld none (.l 0)), q (.len (.l 0)), w 17 (.bin .lss (.l 3) (.l 0))])
   (.cond (.s 17) .skip
   (.exit 4 [f,f,t,t,f,t,f,f,f,f,f,f,f,f,f,f,f,f,f] 4)))
   (.seq (.block 5 (.seq (.reg [q (.fa 1 (.s 6)), q (.ld none (.l 0)), q (.mv (.s 11)), q (.ia 6 (.l 1) (.l 0)), q (.ld (some 6) (.l 0)), q (.fa 1 (.s 7)), q (.ld none (.l 0)), q (.mv (.s 11)), q (.ia 6 (.l 1) (.l 0)), q (.ld (some 6) (.l 0)), q (.call .cl (.c (.one (.fn F.lockstepref03_Same [] []))) [(.l 5), (.l 0)]), w 18 (.un .not (.l 0))])
   (.cond (.s 18) (.seq (.reg [w 4 (.mv (bo false))])
   (.ret [f,f,f,f,t,f,f,f,f,f,f,f,f,f,f,f,f,f,f]))
   .skip)))
   (.reg [q (.mv (.s 11)), q (.bin .add (.l 0) (i 1)), w 11 (.mv (.l 0))])))
def lockstepref04_Same_l1 : Go.A.Code := .loop [f,f,t,t,f,t,t,t,f,f,f,t,f,f,f,f,f,f,f] 4 lockstepref04_Same_b1
theorem lockstepref04_Same_l1_eq (T : Nat → Option Entry) (s : St) : exec T lockstepref04_Same_l1 s = (exec T lockstepref04_Same_b1 s).bind (loopK (exec T lockstepref04_Same_l1) [f,f,t,t,f,t,t,t,f,f,f,t,f,f,f,f,f,f,f] 4) := exec_loop T s _ _ _
def lockstepref04_Same_b2 : Go.A.Code :=
   (.seq (.seq (.reg [q (.mv (.s 5)), q (.fa 2 (.s 2)), q (.ld none (.l 0)), q (.len (.l 0)), w 13 (.bin .lss (.l 3) (.l 0))])
   (.cond (.s 13) .skip
   (.exit 0 [f,f,f,f,f,f,f,f,f,f,f,f,f,f,f,f,f,f,f] 2)))
   (.seq (.block 1 (.seq (.reg [q (.fa 2 (.s 2)), q (.ld none (.l 0)), q (.mv (.s 5)), q (.ia 5 (.l 1) (.l 0)), q (.ld (some 5) (.l 0)), w 6 (.al [.f (.sl []), .f (.sl []), .f (.lit (.int .i64 0)), .f (.lit (.int .i64 0)), .f (.sl [])] []), e (.st 5 (.s 6) (.l 1))])
   (.seq (.reg [q (.fa 2 (.s 3)), q (.ld none (.l 0)), q (.mv (.s 5)), q (.ia 5 (.l 1) (.l 0)), q (.ld (some 5) (.l 0)), w 7 (.al [.f (.sl []), .f (.sl []), .f (.lit (.int .i64 0)), .f (.lit (.int .i64 0)), .f (.sl [])] []), e (.st 5 (.s 7) (.l 1))])
   (.seq (.seq (.reg [q (.fa 0 (.s 6)), q (.ld none (.l 0)), q (.len (.l 0)), q (.fa 0 (.s 7)), q (.ld none (.l 0)), q (.len (.l 0)), q (.bin .neq (.l 3) (.l 0)), q (.mv (.l 0)), ⟨.loc, .fa 1 (.s 6), (some (.l 0, false))⟩, ⟨.loc, .ld none (.l 0), (some (.l 1, false))⟩, ⟨.loc, .len (.l 0), (some (.l 2, false))⟩, ⟨.loc, .fa 1 (.s 7), (some (.l 3, false))⟩, ⟨.loc, .ld none (.l 0), (some (.l 4, false))⟩, ⟨.loc, .len (.l 0), (some (.l 5, false))⟩, ⟨.loc, .bin .neq (.l 3) (.l 0), (some (.l 6, false))⟩, q (.pick (.l 7) (bo true) (.l 0)), q (.mv (.l 0)), ⟨.loc, .fa 2 (.s 6), (some (.l 0, false))⟩, ⟨.loc, .fa 0 (.l 0), (some (.l 1, false))⟩, ⟨.loc, .ld none (.l 0), (some (.l 2, false))⟩, ⟨.loc, .fa 2 (.s 7), (some (.l 3, false))⟩, ⟨.loc, .fa 0 (.l 0), (some (.l 4, false))⟩, ⟨.loc, .ld none (.l 0), (some (.l 5, false))⟩, ⟨.loc, .bin .neq (.l 3) (.l 0), (some (.l 6, false))⟩, q (.pick (.l 7) (bo true) (.l 0)), q (.mv (.l 0)), ⟨.loc, .fa 2 (.s 6), (some (.l 0, false))⟩, ⟨.loc, .fa 1 (.l 0), (some (.l 1, false))⟩, ⟨.loc, .ld none (.l 0), (some (.l 2, false))⟩, ⟨.loc, .fa 2 (.s 7), (some (.l 3, false))⟩, ⟨.loc, .fa 1 (.l 0), (some (.l 4, false))⟩, ⟨.loc, .ld none (.l 0), (some (.l 5, false))⟩, ⟨.loc, .bin .neq (.l 3) (.l 0), (some (.l 6, false))⟩, q (.pick (.l 7) (bo true) (.l 0)), q (.mv (.l 0)), ⟨.loc, .fa 2 (.s 6), (some (.l 0, false))⟩, ⟨.loc, .fa 2 (.l 0), (some (.l 1, false))⟩, ⟨.loc, .ld none (.l 0), (some (.l 2, false))⟩, ⟨.loc, .fa 2 (.s 7), (some (.l 3, false))⟩, ⟨.loc, .fa 2 (.l 0), (some (.l 4, false))⟩, ⟨.loc, .ld none (.l 0), (some (.l 5, false))⟩, ⟨.loc, .call .cl (.c (.one (.fn F.lockstepref02_Ints [] []))) [(.l 3), (.l 0)], (some (.l 6, false))⟩, ⟨.loc, .un .not (.l 0), (some (.l 7, false))⟩, w 14 (.pick (.l 8) (bo true) (.l 0))])
   (.cond (.s 14) (.seq (.reg [w 4 (.mv (bo false))])
   (.ret [f,f,f,f,t,f,f,f,f,f,f,f,f,f,f,f,f,f,f]))
   .skip))
   (.seq (.seq (.reg [w 8 (.mv (i 0))])
   (.block 2 lockstepref04_Same_l0))
   (.seq (.reg [w 11 (.mv (i 0))])
   (.block 4 lockstepref04_Same_l1)))))))
   (.reg [q (.mv (.s 5)), q (.bin .add (.l 0) (i 1)), w 5 (.mv (.l 0))])))
def lockstepref04_Same_l2 : Go.A.Code := .loop [f,f,t,t,f,t,f,f,f,f,f,f,f,f,f,f,f,f,f] 2 lockstepref04_Same_b2
theorem lockstepref04_Same_l2_eq (T : Nat → Option Entry) (s : St) : exec T lockstepref04_Same_l2 s = (exec T lockstepref04_Same_b2 s).bind (loopK (exec T lockstepref04_Same_l2) [f,f,t,t,f,t,f,f,f,f,f,f,f,f,f,f,f,f,f] 2) := exec_loop T s _ _ _
/-- lockstep/lockstepref04.Same -/
def a_lockstepref04_Same : Fun := { np := 2, nslots := 19, keep := 0, raw := false, results := [(4, none)], body :=
   (.seq (.reg [w 2 (.box 3 (.s 0)), w 3 (.box 3 (.s 1)), w 4 (.mv (bo false))])
   (.seq (.seq (.reg [q (.fa 1 (.s 2)), q (.ld none (.l 0)), q (.fa 1 (.s 3)), q (.ld none (.l 0)), q (.bin .neq (.l 2) (.l 0)), q (.mv (.l 0)), ⟨.loc, .fa 0 (.s 2), (some (.l 0, false))⟩, ⟨.loc, .ld none (.l 0), (some (.l 1, false))⟩, ⟨.loc, .fa 0 (.s 3), (some (.l 2, false))⟩, ⟨.loc, .ld none (.l 0), (some (.l 3, false))⟩, ⟨.loc, .call .cl (.c (.one (.fn F.lockstepref02_Ints [] []))) [(.l 2), (.l 0)], (some (.l 4, false))⟩, ⟨.loc, .un .not (.l 0), (some (.l 5, false))⟩, q (.pick (.l 6) (bo true) (.l 0)), q (.mv (.l 0)), ⟨.loc, .fa 2 (.s 2), (some (.l 0, false))⟩, ⟨.loc, .ld none (.l 0), (some (.l 1, false))⟩, ⟨.loc, .len (.l 0), (some (.l 2, false))⟩, ⟨.loc, .fa 2 (.s 3), (some (.l 3, false))⟩, ⟨.loc, .ld none (.l 0), (some (.l 4, false))⟩, ⟨.loc, .len (.l 0), (some (.l 5, false))⟩, ⟨.loc, .bin .neq (.l 3) (.l 0), (some (.l 6, false))⟩, w 12 (.pick (.l 7) (bo true) (.l 0))])
   (.cond (.s 12) (.seq (.reg [w 4 (.mv (bo false))])
   (.ret [f,f,f,f,t,f,f,f,f,f,f,f,f,f,f,f,f,f,f]))
   .skip))
   (.seq (.seq (.reg [w 5 (.mv (i 0))])
   (.block 0 lockstepref04_Same_l2))
   (.seq (.reg [w 4 (.mv (bo true))])
   (.ret [f,f,f,f,t,f,f,f,f,f,f,f,f,f,f,f,f,f,f]))))) }
def k_lockstepref04_Same : List Go.Tmp := [0, 1, 2, 3, 4, 5, 6, 7, 8, 9, 10, 11, 33, 38, 94, 99, 139, 144, 158]
theorem c_lockstepref04_Same : chkFun Go.Proofs.Tryz.prog (drawsOf Go.Proofs.Tryz.prog) k_lockstepref04_Same Go.Proofs.Tryz.f17 a_lockstepref04_Same = true := by kernel_rfl

/-- lockstep/sched.Legal -/
def a_sched_Legal : Fun := { np := 3, nslots := 5, keep := 0, raw := false, results := [(4, none)], body :=
   (.seq (.reg [w 3 (.box 3 (.s 0)), w 4 (.mv (bo false))])
   (.seq (.reg [q (.ld (some 3) (.s 3)), q (.mv (.s 1)), q (.call .cl (.c (.one (.fn F.sched_right [] []))) [(.l 1), (.l 0)]), q (.mv (.l 0)), ⟨.loc, .fa 2 (.s 3), (some (.l 0, true))⟩, ⟨.loc, .ld none (.l 0), (some (.l 1, true))⟩, ⟨.loc, .mv (.s 1), (some (.l 2, true))⟩, ⟨.loc, .ia 5 (.l 1) (.l 0), (some (.l 3, true))⟩, ⟨.loc, .ld (some 5) (.l 0), (some (.l 4, true))⟩, ⟨.loc, .mv (.s 2), (some (.l 5, true))⟩, ⟨.loc, .call .cl (.c (.one (.fn F.sched_legal [] []))) [(.l 1), (.l 0)], (some (.l 6, true))⟩, q (.pick (.l 7) (.l 0) (bo false)), w 4 (.mv (.l 0))])
   (.ret [f,f,f,f,t]))) }
def k_sched_Legal : List Go.Tmp := [0, 1, 2, 3, 6]
theorem c_sched_Legal : chkFun Go.Proofs.Tryz.prog (drawsOf Go.Proofs.Tryz.prog) k_sched_Legal Go.Proofs.Tryz.f18 a_sched_Legal = true := by kernel_rfl

def lockstepref19_Legal_b0 : Go.A.Code :=
   (.seq (.seq (.reg [q (.mv (.s 5)), q (.mv (.s 2)), q (.len (.l 0)), w 9 (.bin .lss (.l 2) (.l 0))])
   (.cond (.s 9) .skip
   (.exit 0 [f,t,t,t,f,f,f,f,f,f,f,f,f,f] 1)))
   (.seq (.block 1 (.seq (.reg [q (.mv (.s 2)), q (.mv (.s 5)), q (.call .cl (.c (.one (.fn F.lockstepref06_Has [] []))) [(.l 1), (.l 0)]), w 10 (.un .not (.l 0))])
   (.cond (.s 10) (.seq (.reg [w 4 (.mv (bo false))])
   (.ret [f,f,f,f,t,f,f,f,f,f,f,f,f,f]))
   .skip)))
   (.reg [q (.mv (.s 5)), q (.bin .add (.l 0) (i 1)), w 5 (.mv (.l 0))])))
def lockstepref19_Legal_l0 : Go.A.Code := .loop [f,t,t,t,f,t,f,f,f,f,f,f,f,f] 1 lockstepref19_Legal_b0
theorem lockstepref19_Legal_l0_eq (T : Nat → Option Entry) (s : St) : exec T lockstepref19_Legal_l0 s = (exec T lockstepref19_Legal_b0 s).bind (loopK (exec T lockstepref19_Legal_l0) [f,t,t,t,f,t,f,f,f,f,f,f,f,f] 1) := exec_loop T s _ _ _
def lockstepref19_Legal_b1 : Go.A.Code :=
   (.seq (.seq (.reg [q (.mv (.s 7)), q (.mv (.s 2)), q (.len (.l 0)), w 12 (.bin .lss (.l 2) (.l 0))])
   (.cond (.s 12) .skip
   (.exit 4 [f,t,t,t,f,f,t,f,f,f,f,f,f,f] 1)))
   (.seq (.block 5 (.seq (.reg [q (.fa 2 (.s 3)), q (.ld none (.l 0)), q (.mv (.s 1)), q (.ia 5 (.l 1) (.l 0)), q (.ld (some 5) (.l 0)), q (.mv (.s 2)), q (.mv (.s 6)), q (.ia 1 (.l 1) (.l 0)), q (.ld none (.l 0)), q (.mv (.s 2)), q (.mv (.s 7)), q (.ia 1 (.l 1) (.l 0)), q (.ld none (.l 0)), w 13 (.call .cl (.c (.one (.fn F.lockstepref19_On [] []))) [(.l 8), (.l 4), (.l 0)])])
   (.cond (.s 13) (.seq (.reg [w 4 (.mv (bo false))])
   (.ret [f,f,f,f,t,f,f,f,f,f,f,f,f,f]))
   .skip)))
   (.reg [q (.mv (.s 7)), q (.bin .add (.l 0) (i 1)), w 7 (.mv (.l 0))])))
def lockstepref19_Legal_l1 : Go.A.Code := .loop [f,t,t,t,f,f,t,t,f,f,f,f,f,f] 1 lockstepref19_Legal_b1
theorem lockstepref19_Legal_l1_eq (T : Nat → Option Entry) (s : St) : exec T lockstepref19_Legal_l1 s = (exec T lockstepref19_Legal_b1 s).bind (loopK (exec T lockstepref19_Legal_l1) [f,t,t,t,f,f,t,t,f,f,f,f,f,f] 1) := exec_loop T s _ _ _
def lockstepref19_Legal_b2 : Go.A.Code :=
   (.seq (.seq (.reg [q (.mv (.s 6)), q (.mv (.s 2)), q (.len (.l 0)), w 11 (.bin .lss (.l 2) (.l 0))])
   (.cond (.s 11) .skip
   (.exit 2 [f,f,f,f,f,f,f,f,f,f,f,f,f,f] 1)))
   (.seq (.block 3 (.seq (.reg [q (.mv (.s 6)), q (.bin .add (.l 0) (i 1)), w 7 (.mv (.l 0))])
   (.block 4 lockstepref19_Legal_l1)))
   (.reg [q (.mv (.s 6)), q (.bin .add (.l 0) (i 1)), w 6 (.mv (.l 0))])))
def lockstepref19_Legal_l2 : Go.A.Code := .loop [f,t,t,t,f,f,t,f,f,f,f,f,f,f] 1 lockstepref19_Legal_b2
theorem lockstepref19_Legal_l2_eq (T : Nat → Option Entry) (s : St) : exec T lockstepref19_Legal_l2 s = (exec T lockstepref19_Legal_b2 s).bind (loopK (exec T lockstepref19_Legal_l2) [f,t,t,t,f,f,t,f,f,f,f,f,f,f] 1) := exec_loop T s _ _ _
/-- lockstep/lockstepref19.Legal -/
def a_lockstepref19_Legal : Fun := { np := 3, nslots := 14, keep := 0, raw := false, results := [(4, none)], body :=
   (.seq (.reg [w 3 (.box 3 (.s 0)), w 4 (.mv (bo false))])
   (.seq (.seq (.reg [q (.ld (some 3) (.s 3)), q (.mv (.s 1)), q (.call .cl (.c (.one (.fn F.lockstepref19_Right [] []))) [(.l 1), (.l 0)]), q (.un .not (.l 0)), q (.mv (.l 0)), ⟨.loc, .mv (.s 2), (some (.l 0, false))⟩, ⟨.loc, .len (.l 0), (some (.l 1, false))⟩, ⟨.loc, .fa 2 (.s 3), (some (.l 2, false))⟩, ⟨.loc, .ld none (.l 0), (some (.l 3, false))⟩, ⟨.loc, .mv (.s 1), (some (.l 4, false))⟩, ⟨.loc, .ia 5 (.l 1) (.l 0), (some (.l 5, false))⟩, ⟨.loc, .fa 1 (.l 0), (some (.l 6, false))⟩, ⟨.loc, .ld none (.l 0), (some (.l 7, false))⟩, ⟨.loc, .len (.l 0), (some (.l 8, false))⟩, ⟨.loc, .bin .neq (.l 7) (.l 0), (some (.l 9, false))⟩, w 8 (.pick (.l 10) (bo true) (.l 0))])
   (.cond (.s 8) (.seq (.reg [w 4 (.mv (bo false))])
   (.ret [f,f,f,f,t,f,f,f,f,f,f,f,f,f]))
   .skip))
   (.seq (.seq (.reg [w 5 (.mv (i 0))])
   (.block 0 lockstepref19_Legal_l0))
   (.seq (.seq (.reg [w 6 (.mv (i 0))])
   (.block 2 lockstepref19_Legal_l2))
   (.seq (.reg [w 4 (.mv (bo true))])
   (.ret [f,f,f,f,t,f,f,f,f,f,f,f,f,f])))))) }
def k_lockstepref19_Legal : List Go.Tmp := [0, 1, 2, 3, 6, 7, 8, 9, 25, 29, 35, 39, 47, 63]
theorem c_lockstepref19_Legal : chkFun Go.Proofs.Tryz.prog (drawsOf Go.Proofs.Tryz.prog) k_lockstepref19_Legal Go.Proofs.Tryz.f19 a_lockstepref19_Legal = true := by kernel_rfl

def lockstepref02_Ints_b0 : Go.A.Code :=
   (.seq (.seq (.reg [q (.mv (.s 3)), q (.mv (.s 0)), q (.len (.l 0)), w 5 (.bin .lss (.l 2) (.l 0))])
   (.cond (.s 5) .skip
   (.exit 0 [f,f,f,f,f,f,f] 0)))
   (.seq (.block 1 (.seq (.reg [q (.mv (.s 0)), q (.mv (.s 3)), q (.ia 1 (.l 1) (.l 0)), q (.ld none (.l 0)), q (.mv (.s 1)), q (.mv (.s 3)), q (.ia 1 (.l 1) (.l 0)), q (.ld none (.l 0)), w 6 (.bin .neq (.l 4) (.l 0))])
   (.cond (.s 6) (.seq (.reg [w 2 (.mv (bo false))])
   (.ret [f,f,t,f,f,f,f]))
   .skip)))
   (.reg [q (.mv (.s 3)), q (.bin .add (.l 0) (i 1)), w 3 (.mv (.l 0))])))
def lockstepref02_Ints_l0 : Go.A.Code := .loop [t,t,f,t,f,f,f] 0 lockstepref02_Ints_b0
theorem lockstepref02_Ints_l0_eq (T : Nat → Option Entry) (s : St) : exec T lockstepref02_Ints_l0 s = (exec T lockstepref02_Ints_b0 s).bind (loopK (exec T lockstepref02_Ints_l0) [t,t,f,t,f,f,f] 0) := exec_loop T s _ _ _
/-- lockstep/lockstepref02.Ints -/
def a_lockstepref02_Ints : Fun := { np := 2, nslots := 7, keep := 0, raw := false, results := [(2, none)], body :=
   (.seq (.reg [w 2 (.mv (bo false))])
   (.seq (.seq (.reg [q (.mv (.s 0)), q (.len (.l 0)), q (.mv (.s 1)), q (.len (.l 0)), w 4 (.bin .neq (.l 2) (.l 0))])
   (.cond (.s 4) (.seq (.reg [w 2 (.mv (bo false))])
   (.ret [f,f,t,f,f,f,f]))
   .skip))
   (.seq (.seq (.reg [w 3 (.mv (i 0))])
   (.block 0 lockstepref02_Ints_l0))
   (.seq (.reg [w 2 (.mv (bo true))])
   (.ret [f,f,t,f,f,f,f]))))) }
def k_lockstepref02_Ints : List Go.Tmp := [0, 1, 4, 5, 10, 14, 25]
theorem c_lockstepref02_Ints : chkFun Go.Proofs.Tryz.prog (drawsOf Go.Proofs.Tryz.prog) k_lockstepref02_Ints Go.Proofs.Tryz.f20 a_lockstepref02_Ints = true := by kernel_rfl

/-- lockstep/sched.Hangs -/
def a_sched_Hangs : Fun := { np := 3, nslots := 6, keep := 0, raw := false, results := [(4, none)], body :=
   (.seq (.reg [w 3 (.box 3 (.s 0)), w 4 (.mv (.c (.one (.f (.sl [])))))])
   (.seq (.seq (.reg [q (.ld (some 3) (.s 3)), q (.mv (.s 1)), q (.call .cl (.c (.one (.fn F.sched_right [] []))) [(.l 1), (.l 0)]), q (.un .not (.l 0)), q (.mv (.l 0)), ⟨.loc, .mv (.s 2), (some (.l 0, false))⟩, ⟨.loc, .bin .lss (.l 0) (i 0), (some (.l 1, false))⟩, q (.pick (.l 2) (bo true) (.l 0)), q (.mv (.l 0)), ⟨.loc, .mv (.s 2), (some (.l 0, false))⟩, ⟨.loc, .fa 2 (.s 3), (some (.l 1, false))⟩, ⟨.loc, .ld none (.l 0), (some (.l 2, false))⟩, ⟨.loc, .mv (.s 1), (some (.l 3, false))⟩, ⟨.loc, .ia 5 (.l 1) (.l 0), (some (.l 4, false))⟩, ⟨.loc, .fa 1 (.l 0), (some (.l 5, false))⟩, ⟨.loc, .ld none (.l 0), (some (.l 6, false))⟩, ⟨.loc, .len (.l 0), (some (.l 7, false))⟩, ⟨.loc, .bin .geq (.l 7) (.l 0), (some (.l 8, false))⟩, w 5 (.pick (.l 9) (bo true) (.l 0))])
   (.cond (.s 5) (.seq (.reg [w 4 (.mv (.c (.one (.f (.sl [])))))])
   (.ret [f,f,f,f,t,f]))
   .skip))
   (.seq (.reg [q (.fa 2 (.s 3)), q (.ld none (.l 0)), q (.mv (.s 1)), q (.ia 5 (.l 1) (.l 0)), q (.ld (some 5) (.l 0)), q (.call .cl (.c (.one (.fn F.sched_hangs [] []))) [(.l 0)]), q (.mv (.s 2)), q (.ia 1 (.l 1) (.l 0)), q (.ld none (.l 0)), w 4 (.mv (.l 0))])
   (.ret [f,f,f,f,t,f])))) }
def k_sched_Hangs : List Go.Tmp := [0, 1, 2, 3, 6, 25]
theorem c_sched_Hangs : chkFun Go.Proofs.Tryz.prog (drawsOf Go.Proofs.Tryz.prog) k_sched_Hangs Go.Proofs.Tryz.f21 a_sched_Hangs = true := by kernel_rfl

def lockstepref19_Hangs_b0 : Go.A.Code :=
   (.seq (.seq (.reg [q (.mv (.s 6)), q (.mv (.s 2)), w 8 (.bin .lss (.l 1) (.l 0))])
   (.cond (.s 8) .skip
   (.exit 0 [f,f,f,f,f,t,f,f,f,f] 2)))
   (.seq (.block 1 (.seq (.reg [q (.fa 2 (.s 3)), q (.ld none (.l 0)), q (.mv (.s 1)), q (.ia 5 (.l 1) (.l 0)), q (.ld (some 5) (.l 0)), q (.mv (.s 2)), q (.mv (.s 6)), w 9 (.call .cl (.c (.one (.fn F.lockstepref19_On [] []))) [(.l 2), (.l 1), (.l 0)])])
   (.cond (.s 9) (.reg [q (.mv (.s 5)), q (.mv (.s 6)), q (.bsl .fz 1 [[.f (.lit (.int .i64 0))]] [(0, (.l 0))]), q (.app 1 (.l 2) (.l 0)), w 5 (.mv (.l 0))])
   .skip)))
   (.reg [q (.mv (.s 6)), q (.bin .add (.l 0) (i 1)), w 6 (.mv (.l 0))])))
def lockstepref19_Hangs_l0 : Go.A.Code := .loop [f,t,t,t,f,t,t,f,f,f] 2 lockstepref19_Hangs_b0
theorem lockstepref19_Hangs_l0_eq (T : Nat → Option Entry) (s : St) : exec T lockstepref19_Hangs_l0 s = (exec T lockstepref19_Hangs_b0 s).bind (loopK (exec T lockstepref19_Hangs_l0) [f,t,t,t,f,t,t,f,f,f] 2) := exec_loop T s _ _ _
/-- lockstep/lockstepref19.Hangs -/
def a_lockstepref19_Hangs : Fun := { np := 3, nslots := 10, keep := 0, raw := false, results := [(4, none)], body :=
   (.seq (.reg [w 3 (.box 3 (.s 0)), w 4 (.mv (.c (.one (.f (.sl [])))))])
   (.seq (.reg [w 5 (.nl .tk 1)])
   (.seq (.seq (.reg [q (.ld (some 3) (.s 3)), q (.mv (.s 1)), q (.call .cl (.c (.one (.fn F.lockstepref19_Right [] []))) [(.l 1), (.l 0)]), q (.un .not (.l 0)), q (.mv (.l 0)), ⟨.loc, .mv (.s 2), (some (.l 0, false))⟩, ⟨.loc, .bin .lss (.l 0) (i 0), (some (.l 1, false))⟩, q (.pick (.l 2) (bo true) (.l 0)), q (.mv (.l 0)), ⟨.loc, .mv (.s 2), (some (.l 0, false))⟩, ⟨.loc, .fa 2 (.s 3), (some (.l 1, false))⟩, ⟨.loc, .ld none (.l 0), (some (.l 2, false))⟩, ⟨.loc, .mv (.s 1), (some (.l 3, false))⟩, ⟨.loc, .ia 5 (.l 1) (.l 0), (some (.l 4, false))⟩, ⟨.loc, .fa 1 (.l 0), (some (.l 5, false))⟩, ⟨.loc, .ld none (.l 0), (some (.l 6, false))⟩, ⟨.loc, .len (.l 0), (some (.l 7, false))⟩, ⟨.loc, .bin .geq (.l 7) (.l 0), (some (.l 8, false))⟩, w 7 (.pick (.l 9) (bo true) (.l 0))])
   (.cond (.s 7) (.seq (.reg [w 4 (.mv (.c (.one (.f (.sl [])))))])
   (.ret [f,f,f,f,t,f,f,f,f,f]))
   .skip))
   (.seq (.seq (.reg [w 6 (.mv (i 0))])
   (.block 0 lockstepref19_Hangs_l0))
   (.seq (.reg [q (.mv (.s 5)), w 4 (.mv (.l 0))])
   (.ret [f,f,f,f,t,f,f,f,f,f])))))) }
def k_lockstepref19_Hangs : List Go.Tmp := [0, 1, 2, 3, 6, 7, 8, 27, 30, 40]
theorem c_lockstepref19_Hangs : chkFun Go.Proofs.Tryz.prog (drawsOf Go.Proofs.Tryz.prog) k_lockstepref19_Hangs Go.Proofs.Tryz.f22 a_lockstepref19_Hangs = true := by kernel_rfl

def sched_Flat_b0 : Go.A.Code :=
   (.seq (.reg [w 19 (.bin .lss (.s 18) (.s 17))])
   (.seq (.cond (.s 19) .skip
   (.exit 2 [f,f,f,f,t,t,t,t,f,f,f,f,t,t,t,f,f,f,f,f,f] 4))
   (.seq (.block 3 (.seq (.reg [q (.mv (.s 18)), q (.ia 6 (.s 16) (.s 18)), q (.ld (some 6) (.l 0)), w 10 (.al [.f (.lit (.int .i64 0)), .f (.lit (.int .i64 0)), .f (.lit (.int .i64 0)), .f (.lit (.int .i64 0)), .f (.sl []), .f (.lit (.int .u64 0))] []), w 9 (.mv (.l 3)), e (.st 6 (.s 10) (.l 2))])
   (.seq (.reg [q (.mv (.s 6)), q (.mv (.s 9)), q (.lk (.one (.f (.lit (.bool false)))) false (.l 1) (.l 0)), q (.un .not (.l 0)), q (.mv (.l 0)), ⟨.loc, .fa 0 (.s 10), (some (.l 0, true))⟩, ⟨.loc, .ld none (.l 0), (some (.l 1, true))⟩, ⟨.loc, .call .cl (.c (.one (.fn F.kind_Pure [] []))) [(.l 0)], (some (.l 2, true))⟩, ⟨.loc, .mv (.s 8), (some (.l 3, true))⟩, ⟨.loc, .beq false (.l 1) (.l 0), (some (.l 4, true))⟩, q (.pick (.l 5) (.l 0) (bo false)), q (.mv (.l 0)), ⟨.loc, .mv (.s 6), (some (.l 0, true))⟩, ⟨.loc, .mv (.s 5), (some (.l 1, true))⟩, ⟨.loc, .mv (.s 9), (some (.l 2, true))⟩, ⟨.loc, .ia 1 (.l 1) (.l 0), (some (.l 3, true))⟩, ⟨.loc, .ld none (.l 0), (some (.l 4, true))⟩, ⟨.loc, .call .op (.c (.one (.fn F.sched_stands [] []))) [(.l 4), (.l 0)], (some (.l 5, true))⟩, w 20 (.pick (.l 6) (.l 0) (bo false))])
   (.cond (.s 20) (.seq (.reg [q (.mv (.s 6)), q (.mv (.s 9)), e (.mu (.l 1) (.l 0) (bo true))])
   (.seq (.reg [q (.mv (.s 7)), q (.mv (.s 9)), q (.bsl .fz 1 [[.f (.lit (.int .i64 0))]] [(0, (.l 0))]), q (.app 1 (.l 2) (.l 0)), w 7 (.mv (.l 0))])
   (.goto 0 [f,f,f,f,t,t,t,t,f,f,f,f,f,f,f,f,f,f,f,f,f] 4)))
   .skip))))
   (.reg [q (.bin .add (.s 18) (i 1)), w 18 (.mv (.l 0))]))))
def sched_Flat_l0 : Go.A.Code := .loop [f,f,f,f,t,t,t,t,t,f,f,f,t,t,t,f,t,t,t,f,f] 4 sched_Flat_b0
theorem sched_Flat_l0_eq (T : Nat → Option Entry) (s : St) : exec T sched_Flat_l0 s = (exec T sched_Flat_b0 s).bind (loopK (exec T sched_Flat_l0) [f,f,f,f,t,t,t,t,t,f,f,f,t,t,t,f,t,t,t,f,f] 4) := exec_loop T s _ _ _
def sched_Flat_b1 : Go.A.Code :=
   (.seq (.reg [w 15 (.bin .lss (.s 14) (.s 13))])
   (.seq (.cond (.s 15) .skip
   (.exit 0 [f,f,f,f,f,f,f,t,f,f,f,f,f,f,f,f,f,f,f,f,f] 4))
   (.seq (.block 1 (.seq (.reg [q (.ia 1 (.s 12) (.s 14)), q (.ld none (.l 0)), w 8 (.mv (.l 0))])
   (.seq (.reg [q (.fa 1 (.s 4)), w 16 (.ld none (.l 0)), w 17 (.len (.s 16)), w 18 (.mv (i 0))])
   (.block 2 sched_Flat_l0))))
   (.reg [q (.bin .add (.s 14) (i 1)), w 14 (.mv (.l 0))]))))
def sched_Flat_l1 : Go.A.Code := .loop [f,f,f,f,t,t,t,t,f,f,f,f,t,t,t,f,f,f,f,f,f] 4 sched_Flat_b1
theorem sched_Flat_l1_eq (T : Nat → Option Entry) (s : St) : exec T sched_Flat_l1 s = (exec T sched_Flat_b1 s).bind (loopK (exec T sched_Flat_l1) [f,f,f,f,t,t,t,t,f,f,f,f,t,t,t,f,f,f,f,f,f] 4) := exec_loop T s _ _ _
def sched_Flat_s2 : Go.A.Code :=
   (.seq (.seq (.reg [q (.ld (some 3) (.s 2)), q (.mv (.s 1)), q (.call .cl (.c (.one (.fn F.sched_right [] []))) [(.l 1), (.l 0)]), w 11 (.un .not (.l 0))])
   (.cond (.s 11) (.seq (.reg [w 3 (.mv (.c (.one (.f (.sl [])))))])
   (.ret [f,f,f,t,f,f,f,f,f,f,f,f,f,f,f,f,f,f,f,f,f]))
   .skip))
   (.seq (.reg [q (.fa 2 (.s 2)), q (.ld none (.l 0)), q (.mv (.s 1)), q (.ia 5 (.l 1) (.l 0)), q (.ld (some 5) (.l 0)), w 4 (.al [.f (.sl []), .f (.sl []), .f (.lit (.int .i64 0)), .f (.lit (.int .i64 0)), .f (.sl [])] []), e (.st 5 (.s 4) (.l 1))])
   (.seq (.reg [q (.ld (some 5) (.s 4)), q (.call .cl (.c (.one (.fn F.sched_hangs [] []))) [(.l 0)]), w 5 (.mv (.l 0))])
   (.seq (.reg [q (.mkm), w 6 (.mv (.l 0))])
   (.seq (.reg [w 7 (.nl .tk 1)])
   (.seq (.label 0)
   (.seq (.seq (.reg [w 12 (.bsl .fz 1 [[.f (.lit (.bool false))], [.f (.lit (.bool false))]] [(0, (bo true)), (1, (bo false))]), w 13 (.len (.s 12)), w 14 (.mv (i 0))])
   (.block 0 sched_Flat_l1))
   (.seq (.reg [q (.mv (.s 7)), w 3 (.mv (.l 0))])
   (.ret [f,f,f,t,f,f,f,f,f,f,f,f,f,f,f,f,f,f,f,f,f])))))))))
def sched_Flat_r2 : Go.A.Code := (findLabel sched_Flat_s2 0).getD .skip
theorem sched_Flat_r2_eq : findLabel sched_Flat_s2 0 = some sched_Flat_r2 := rfl
/-- lockstep/sched.Flat -/
def a_sched_Flat : Fun := { np := 2, nslots := 21, keep := 0, raw := false, results := [(3, none)], body :=
   (.seq (.reg [w 2 (.box 3 (.s 0)), w 3 (.mv (.c (.one (.f (.sl [])))))])
   (.scope sched_Flat_s2)) }
def k_sched_Flat : List Go.Tmp := [0, 1, 2, 4, 5, 6, 7, 8, 10, 11, 12, 16, 25, 26, 27, 28, 32, 33, 34, 35, 57]
theorem c_sched_Flat : chkFun Go.Proofs.Tryz.prog (drawsOf Go.Proofs.Tryz.prog) k_sched_Flat Go.Proofs.Tryz.f23 a_sched_Flat = true := by kernel_rfl

def lockstepref19_Flat_b0 : Go.A.Code :=
   (.seq (.seq (.reg [q (.mv (.s 9)), q (.mv (.s 7)), w 13 (.bin .lss (.l 1) (.l 0))])
   (.cond (.s 13) .skip
   (.exit 4 [f,f,f,f,t,t,t,t,t,f,f,f,f,f,f] 3)))
   (.seq (.block 5 (.reg [q (.mv (.s 8)), q (.mv (.l 0)), ⟨.loc, .ld (some 5) (.s 5), (some (.l 0, true))⟩, ⟨.loc, .mv (.s 7), (some (.l 1, true))⟩, ⟨.loc, .mv (.s 9), (some (.l 2, true))⟩, ⟨.loc, .call .cl (.c (.one (.fn F.lockstepref19_On [] []))) [(.l 2), (.l 1), (.l 0)], (some (.l 3, true))⟩, ⟨.loc, .un .not (.l 0), (some (.l 4, true))⟩, ⟨.loc, .mv (.l 0), (some (.l 5, true))⟩, ⟨.loc, .mv (.s 4), (some (.l 0, false))⟩, ⟨.loc, .mv (.s 9), (some (.l 1, false))⟩, ⟨.loc, .call .cl (.c (.one (.fn F.lockstepref06_Has [] []))) [(.l 1), (.l 0)], (some (.l 2, false))⟩, ⟨.loc, .pick (.l 3) (bo true) (.l 0), (some (.l 9, true))⟩, q (.pick (.l 10) (.l 0) (bo false)), w 8 (.mv (.l 0))]))
   (.reg [q (.mv (.s 9)), q (.bin .add (.l 0) (i 1)), w 9 (.mv (.l 0))])))
def lockstepref19_Flat_l0 : Go.A.Code := .loop [f,f,f,f,t,t,t,t,t,t,f,f,f,f,f] 3 lockstepref19_Flat_b0
theorem lockstepref19_Flat_l0_eq (T : Nat → Option Entry) (s : St) : exec T lockstepref19_Flat_l0 s = (exec T lockstepref19_Flat_b0 s).bind (loopK (exec T lockstepref19_Flat_l0) [f,f,f,f,t,t,t,t,t,t,f,f,f,f,f] 3) := exec_loop T s _ _ _
def lockstepref19_Flat_b1 : Go.A.Code :=
   (.seq (.seq (.reg [q (.mv (.s 7)), q (.fa 1 (.s 5)), q (.ld none (.l 0)), q (.len (.l 0)), w 12 (.bin .lss (.l 3) (.l 0))])
   (.cond (.s 12) .skip
   (.exit 2 [f,f,f,f,t,t,t,f,f,f,f,f,f,f,f] 3)))
   (.seq (.block 3 (.seq (.reg [q (.mv (.s 4)), q (.mv (.s 7)), q (.call .cl (.c (.one (.fn F.lockstepref06_Has [] []))) [(.l 1), (.l 0)]), q (.un .not (.l 0)), w 8 (.mv (.l 0))])
   (.seq (.seq (.reg [w 9 (.mv (i 0))])
   (.block 4 lockstepref19_Flat_l0))
   (.seq (.reg [q (.mv (.s 8)), q (.mv (.l 0)), ⟨.loc, .mv (.s 6), (some (.l 0, true))⟩, ⟨.loc, .bin .lss (.l 0) (i 0), (some (.l 1, true))⟩, ⟨.loc, .mv (.l 0), (some (.l 2, true))⟩, ⟨.loc, .fa 1 (.s 5), (some (.l 0, false))⟩, ⟨.loc, .ld none (.l 0), (some (.l 1, false))⟩, ⟨.loc, .mv (.s 7), (some (.l 2, false))⟩, ⟨.loc, .ia 6 (.l 1) (.l 0), (some (.l 3, false))⟩, ⟨.loc, .fa 0 (.l 0), (some (.l 4, false))⟩, ⟨.loc, .ld none (.l 0), (some (.l 5, false))⟩, ⟨.loc, .call .cl (.c (.one (.fn F.lockstepref03_Pure [] []))) [(.l 0)], (some (.l 6, false))⟩, ⟨.loc, .mv (.l 0), (some (.l 7, false))⟩, ⟨.loc, .fa 1 (.s 5), (some (.l 0, true))⟩, ⟨.loc, .ld none (.l 0), (some (.l 1, true))⟩, ⟨.loc, .mv (.s 6), (some (.l 2, true))⟩, ⟨.loc, .ia 6 (.l 1) (.l 0), (some (.l 3, true))⟩, ⟨.loc, .fa 0 (.l 0), (some (.l 4, true))⟩, ⟨.loc, .ld none (.l 0), (some (.l 5, true))⟩, ⟨.loc, .call .cl (.c (.one (.fn F.lockstepref03_Pure [] []))) [(.l 0)], (some (.l 6, true))⟩, ⟨.loc, .un .not (.l 0), (some (.l 7, true))⟩, ⟨.loc, .pick (.l 8) (.l 0) (bo false), (some (.l 16, false))⟩, ⟨.loc, .pick (.l 17) (bo true) (.l 0), (some (.l 20, true))⟩, w 14 (.pick (.l 21) (.l 0) (bo false))])
   (.cond (.s 14) (.reg [q (.mv (.s 7)), w 6 (.mv (.l 0))])
   .skip)))))
   (.reg [q (.mv (.s 7)), q (.bin .add (.l 0) (i 1)), w 7 (.mv (.l 0))])))
def lockstepref19_Flat_l1 : Go.A.Code := .loop [f,f,f,f,t,t,t,t,f,f,f,f,f,f,f] 3 lockstepref19_Flat_b1
theorem lockstepref19_Flat_l1_eq (T : Nat → Option Entry) (s : St) : exec T lockstepref19_Flat_l1 s = (exec T lockstepref19_Flat_b1 s).bind (loopK (exec T lockstepref19_Flat_l1) [f,f,f,f,t,t,t,t,f,f,f,f,f,f,f] 3) := exec_loop T s _ _ _
def lockstepref19_Flat_b2 : Go.A.Code :=
   (.seq (.seq (.reg [q (.mv (.s 4)), q (.len (.l 0)), q (.fa 1 (.s 5)), q (.ld none (.l 0)), q (.len (.l 0)), w 11 (.bin .lss (.l 3) (.l 0))])
   (.cond (.s 11) .skip
   (.exit 0 [f,f,f,f,t,f,f,f,f,f,f,f,f,f,f] 3)))
   (.block 1 (.seq (.reg [w 6 (.mv (i (-1)))])
   (.seq (.seq (.reg [w 7 (.mv (i 0))])
   (.block 2 lockstepref19_Flat_l1))
   (.reg [q (.mv (.s 4)), q (.mv (.s 6)), q (.bsl .fz 1 [[.f (.lit (.int .i64 0))]] [(0, (.l 0))]), q (.app 1 (.l 2) (.l 0)), w 4 (.mv (.l 0))])))))
def lockstepref19_Flat_l2 : Go.A.Code := .loop [f,f,f,f,t,t,f,f,f,f,f,f,f,f,f] 3 lockstepref19_Flat_b2
theorem lockstepref19_Flat_l2_eq (T : Nat → Option Entry) (s : St) : exec T lockstepref19_Flat_l2 s = (exec T lockstepref19_Flat_b2 s).bind (loopK (exec T lockstepref19_Flat_l2) [f,f,f,f,t,t,f,f,f,f,f,f,f,f,f] 3) := exec_loop T s _ _ _
/-- lockstep/lockstepref19.Flat -/
def a_lockstepref19_Flat : Fun := { np := 2, nslots := 15, keep := 0, raw := false, results := [(3, none)], body :=
   (.seq (.reg [w 2 (.box 3 (.s 0)), w 3 (.mv (.c (.one (.f (.sl [])))))])
   (.seq (.reg [w 4 (.nl .tk 1)])
   (.seq (.seq (.reg [q (.ld (some 3) (.s 2)), q (.mv (.s 1)), q (.call .cl (.c (.one (.fn F.lockstepref19_Right [] []))) [(.l 1), (.l 0)]), w 10 (.un .not (.l 0))])
   (.cond (.s 10) (.seq (.reg [w 3 (.mv (.c (.one (.f (.sl [])))))])
   (.ret [f,f,f,t,f,f,f,f,f,f,f,f,f,f,f]))
   .skip))
   (.seq (.reg [q (.fa 2 (.s 2)), q (.ld none (.l 0)), q (.mv (.s 1)), q (.ia 5 (.l 1) (.l 0)), q (.ld (some 5) (.l 0)), w 5 (.al [.f (.sl []), .f (.sl []), .f (.lit (.int .i64 0)), .f (.lit (.int .i64 0)), .f (.sl [])] []), e (.st 5 (.s 5) (.l 1))])
   (.seq (.block 0 lockstepref19_Flat_l2)
   (.seq (.reg [q (.mv (.s 4)), w 3 (.mv (.l 0))])
   (.ret [f,f,f,t,f,f,f,f,f,f,f,f,f,f,f]))))))) }
def k_lockstepref19_Flat : List Go.Tmp := [0, 1, 2, 4, 5, 6, 7, 8, 9, 10, 14, 25, 30, 39, 78]
theorem c_lockstepref19_Flat : chkFun Go.Proofs.Tryz.prog (drawsOf Go.Proofs.Tryz.prog) k_lockstepref19_Flat Go.Proofs.Tryz.f24 a_lockstepref19_Flat = true := by kernel_rfl

def sched_Depth_b0 : Go.A.Code :=
   (.seq (.reg [w 16 (.bin .lss (.s 15) (.s 14))])
   (.seq (.cond (.s 16) .skip
   (.exit 2 [f,f,f,f,t,f,t,f,f,t,t,t,f,f,f,f,f] 2))
   (.seq (.block 3 (.seq (.reg [q (.ia 1 (.s 13) (.s 15)), q (.ld none (.l 0)), w 7 (.mv (.l 0))])
   (.reg [q (.mv (.s 6)), q (.mv (.s 4)), q (.mv (.s 7)), q (.ia 1 (.l 1) (.l 0)), q (.ld none (.l 0)), q (.bin .add (.l 0) (i 1)), q (.mxn true (.l 5) (.l 0)), w 6 (.mv (.l 0))])))
   (.reg [q (.bin .add (.s 15) (i 1)), w 15 (.mv (.l 0))]))))
def sched_Depth_l0 : Go.A.Code := .loop [f,f,f,f,t,f,t,f,f,t,t,t,f,t,t,t,f] 2 sched_Depth_b0
theorem sched_Depth_l0_eq (T : Nat → Option Entry) (s : St) : exec T sched_Depth_l0 s = (exec T sched_Depth_b0 s).bind (loopK (exec T sched_Depth_l0) [f,f,f,f,t,f,t,f,f,t,t,t,f,t,t,t,f] 2) := exec_loop T s _ _ _
def sched_Depth_b1 : Go.A.Code :=
   (.seq (.reg [w 12 (.bin .lss (.s 11) (.s 10))])
   (.seq (.cond (.s 12) .skip
   (.exit 0 [f,f,f,f,t,f,f,f,f,f,f,f,f,f,f,f,f] 2))
   (.seq (.block 1 (.seq (.reg [q (.ia 1 (.s 9) (.s 11)), q (.ld none (.l 0)), w 5 (.mv (.l 0))])
   (.seq (.reg [w 6 (.mv (i 0))])
   (.seq (.seq (.reg [w 13 (.mv (.s 5)), w 14 (.len (.s 13)), w 15 (.mv (i 0))])
   (.block 2 sched_Depth_l0))
   (.reg [q (.mv (.s 4)), q (.mv (.s 6)), q (.bsl .fz 1 [[.f (.lit (.int .i64 0))]] [(0, (.l 0))]), q (.app 1 (.l 2) (.l 0)), w 4 (.mv (.l 0))])))))
   (.reg [q (.bin .add (.s 11) (i 1)), w 11 (.mv (.l 0))]))))
def sched_Depth_l1 : Go.A.Code := .loop [f,f,f,f,t,f,f,f,f,t,t,t,f,f,f,f,f] 2 sched_Depth_b1
theorem sched_Depth_l1_eq (T : Nat → Option Entry) (s : St) : exec T sched_Depth_l1 s = (exec T sched_Depth_b1 s).bind (loopK (exec T sched_Depth_l1) [f,f,f,f,t,f,f,f,f,t,t,t,f,f,f,f,f] 2) := exec_loop T s _ _ _
/-- lockstep/sched.Depth -/
def a_sched_Depth : Fun := { np := 2, nslots := 17, keep := 0, raw := false, results := [(3, none)], body :=
   (.seq (.reg [w 2 (.box 3 (.s 0)), w 3 (.mv (.c (.one (.f (.sl [])))))])
   (.seq (.seq (.reg [q (.ld (some 3) (.s 2)), q (.mv (.s 1)), q (.call .cl (.c (.one (.fn F.sched_right [] []))) [(.l 1), (.l 0)]), w 8 (.un .not (.l 0))])
   (.cond (.s 8) (.seq (.reg [w 3 (.mv (.c (.one (.f (.sl [])))))])
   (.ret [f,f,f,t,f,f,f,f,f,f,f,f,f,f,f,f,f]))
   .skip))
   (.seq (.reg [w 4 (.nl .tk 1)])
   (.seq (.seq (.reg [q (.fa 2 (.s 2)), q (.ld none (.l 0)), q (.mv (.s 1)), q (.ia 5 (.l 1) (.l 0)), q (.ld (some 5) (.l 0)), w 9 (.call .cl (.c (.one (.fn F.sched_hangs [] []))) [(.l 0)]), w 10 (.len (.s 9)), w 11 (.mv (i 0))])
   (.block 0 sched_Depth_l1))
   (.seq (.reg [q (.mv (.s 4)), w 3 (.mv (.l 0))])
   (.ret [f,f,f,t,f,f,f,f,f,f,f,f,f,f,f,f,f])))))) }
def k_sched_Depth : List Go.Tmp := [0, 1, 2, 4, 5, 7, 8, 10, 14, 20, 21, 22, 23, 26, 27, 28, 29]
theorem c_sched_Depth : chkFun Go.Proofs.Tryz.prog (drawsOf Go.Proofs.Tryz.prog) k_sched_Depth Go.Proofs.Tryz.f25 a_sched_Depth = true := by kernel_rfl

/-- lockstep/lockstepref19.Right -/
def a_lockstepref19_Right : Fun := { np := 2, nslots := 4, keep := 0, raw := false, results := [(3, none)], body :=
   (.seq (.reg [w 2 (.box 3 (.s 0)), w 3 (.mv (bo false))])
   (.seq (.reg [q (.ld (some 3) (.s 2)), q (.call .cl (.c (.one (.fn F.lockstepref11_Check [] []))) [(.l 0), (i 2)]), q (.bin .eql (.l 0) (i 0)), q (.mv (.l 0)), ⟨.loc, .mv (.s 1), (some (.l 0, true))⟩, ⟨.loc, .bin .geq (.l 0) (i 0), (some (.l 1, true))⟩, q (.pick (.l 2) (.l 0) (bo false)), q (.mv (.l 0)), ⟨.loc, .mv (.s 1), (some (.l 0, true))⟩, ⟨.loc, .fa 2 (.s 2), (some (.l 1, true))⟩, ⟨.loc, .ld none (.l 0), (some (.l 2, true))⟩, ⟨.loc, .len (.l 0), (some (.l 3, true))⟩, ⟨.loc, .bin .lss (.l 3) (.l 0), (some (.l 4, true))⟩, q (.pick (.l 5) (.l 0) (bo false)), w 3 (.mv (.l 0))])
   (.ret [f,f,f,t]))) }
def k_lockstepref19_Right : List Go.Tmp := [0, 1, 2, 4]
theorem c_lockstepref19_Right : chkFun Go.Proofs.Tryz.prog (drawsOf Go.Proofs.Tryz.prog) k_lockstepref19_Right Go.Proofs.Tryz.f26 a_lockstepref19_Right = true := by kernel_rfl

/-- lockstep/lockstepref19.On -/
def a_lockstepref19_On : Fun := { np := 3, nslots := 9, keep := 0, raw := false, results := [(4, none)], body :=
   (.seq (.reg [w 3 (.box 5 (.s 0)), w 4 (.mv (bo false))])
   (.seq (.seq (.reg [q (.mv (.s 2)), q (.mv (.s 1)), w 7 (.bin .geq (.l 1) (.l 0))])
   (.cond (.s 7) (.seq (.reg [w 4 (.mv (bo false))])
   (.ret [f,f,f,f,t,f,f,f,f]))
   .skip))
   (.seq (.reg [q (.fa 1 (.s 3)), q (.ld none (.l 0)), q (.mv (.s 2)), q (.ia 6 (.l 1) (.l 0)), q (.ld (some 6) (.l 0)), w 5 (.al [.f (.lit (.int .i64 0)), .f (.lit (.int .i64 0)), .f (.lit (.int .i64 0)), .f (.lit (.int .i64 0)), .f (.sl []), .f (.lit (.int .u64 0))] []), e (.st 6 (.s 5) (.l 1))])
   (.seq (.reg [q (.fa 1 (.s 3)), q (.ld none (.l 0)), q (.mv (.s 1)), q (.ia 6 (.l 1) (.l 0)), q (.ld (some 6) (.l 0)), w 6 (.al [.f (.lit (.int .i64 0)), .f (.lit (.int .i64 0)), .f (.lit (.int .i64 0)), .f (.lit (.int .i64 0)), .f (.sl []), .f (.lit (.int .u64 0))] []), e (.st 6 (.s 6) (.l 1))])
   (.seq (.seq (.reg [q (.fa 3 (.s 5)), q (.ld none (.l 0)), q (.bin .neq (.l 0) (i 0)), q (.mv (.l 0)), ⟨.loc, .fa 4 (.s 6), (some (.l 0, true))⟩, ⟨.loc, .ld none (.l 0), (some (.l 1, true))⟩, ⟨.loc, .fa 3 (.s 5), (some (.l 2, true))⟩, ⟨.loc, .ld none (.l 0), (some (.l 3, true))⟩, ⟨.loc, .call .cl (.c (.one (.fn F.lockstepref06_Has [] []))) [(.l 2), (.l 0)], (some (.l 4, true))⟩, w 8 (.pick (.l 5) (.l 0) (bo false))])
   (.cond (.s 8) (.seq (.reg [w 4 (.mv (bo true))])
   (.ret [f,f,f,f,t,f,f,f,f]))
   .skip))
   (.seq (.reg [q (.fa 0 (.s 5)), q (.ld none (.l 0)), q (.call .cl (.c (.one (.fn F.lockstepref03_Pure [] []))) [(.l 0)]), q (.un .not (.l 0)), q (.mv (.l 0)), ⟨.loc, .fa 0 (.s 6), (some (.l 0, true))⟩, ⟨.loc, .ld none (.l 0), (some (.l 1, true))⟩, ⟨.loc, .call .cl (.c (.one (.fn F.lockstepref03_Pure [] []))) [(.l 0)], (some (.l 2, true))⟩, ⟨.loc, .un .not (.l 0), (some (.l 3, true))⟩, q (.pick (.l 4) (.l 0) (bo false)), w 4 (.mv (.l 0))])
   (.ret [f,f,f,f,t,f,f,f,f]))))))) }
def k_lockstepref19_On : List Go.Tmp := [0, 1, 2, 3, 6, 7, 8, 11, 31]
theorem c_lockstepref19_On : chkFun Go.Proofs.Tryz.prog (drawsOf Go.Proofs.Tryz.prog) k_lockstepref19_On Go.Proofs.Tryz.f27 a_lockstepref19_On = true := by kernel_rfl

def lockstepref11_Check_b0 : Go.A.Code :=
   (.seq (.seq (.reg [q (.mv (.s 5)), q (.mv (.s 4)), q (.len (.l 0)), w 18 (.bin .lss (.l 2) (.l 0))])
   (.cond (.s 18) .skip
   (.exit 0 [f,f,t,f,t,f,f,f,f,f,f,f,f,f,f,f,f,f,f,f,f,f,f,f,f,f,f] 1)))
   (.seq (.block 1 (.seq (.reg [q (.mv (.s 4)), q (.mv (.s 5)), q (.ia 5 (.l 1) (.l 0)), q (.fa 0 (.l 0)), q (.ld none (.l 0)), q (.call .cl (.c (.one (.fn F.lockstepref03_Value [] []))) [(.l 0)]), q (.un .not (.l 0)), q (.mv (.l 0)), ⟨.loc, .mv (.s 4), (some (.l 0, false))⟩, ⟨.loc, .mv (.s 4), (some (.l 1, false))⟩, ⟨.loc, .mv (.s 5), (some (.l 2, false))⟩, ⟨.loc, .ia 5 (.l 1) (.l 0), (some (.l 3, false))⟩, ⟨.loc, .fa 0 (.l 0), (some (.l 4, false))⟩, ⟨.loc, .ld none (.l 0), (some (.l 5, false))⟩, ⟨.loc, .call .cl (.c (.one (.fn F.lockstepref11_Find [] []))) [(.l 5), (.l 0)], (some (.l 6, false))⟩, ⟨.loc, .mv (.s 5), (some (.l 7, false))⟩, ⟨.loc, .bin .neq (.l 1) (.l 0), (some (.l 8, false))⟩, w 19 (.pick (.l 9) (bo true) (.l 0))])
   (.cond (.s 19) (.seq (.reg [w 3 (.mv (i 7))])
   (.ret [f,f,f,t,f,f,f,f,f,f,f,f,f,f,f,f,f,f,f,f,f,f,f,f,f,f,f]))
   .skip)))
   (.reg [q (.mv (.s 5)), q (.bin .add (.l 0) (i 1)), w 5 (.mv (.l 0))])))
def lockstepref11_Check_l0 : Go.A.Code := .loop [f,f,t,f,t,t,f,f,f,f,f,f,f,f,f,f,f,f,f,f,f,f,f,f,f,f,f] 1 lockstepref11_Check_b0
theorem lockstepref11_Check_l0_eq (T : Nat → Option Entry) (s : St) : exec T lockstepref11_Check_l0 s = (exec T lockstepref11_Check_b0 s).bind (loopK (exec T lockstepref11_Check_l0) [f,f,t,f,t,t,f,f,f,f,f,f,f,f,f,f,f,f,f,f,f,f,f,f,f,f,f] 1) := exec_loop T s _ _ _
def lockstepref11_Check_b1 : Go.A.Code :=
   (.seq (.seq (.reg [q (.mv (.s 7)), q (.mv (.s 6)), q (.len (.l 0)), w 20 (.bin .lss (.l 2) (.l 0))])
   (.cond (.s 20) .skip
   (.exit 2 [f,f,t,f,t,f,t,f,f,f,f,f,f,f,f,f,f,f,f,f,f,f,f,f,f,f,f] 1)))
   (.seq (.block 3 (.seq (.reg [q (.mv (.s 4)), q (.mv (.s 6)), q (.mv (.s 7)), q (.ia 5 (.l 1) (.l 0)), q (.fa 0 (.l 0)), q (.ld none (.l 0)), q (.call .cl (.c (.one (.fn F.lockstepref11_Find [] []))) [(.l 5), (.l 0)]), w 21 (.bin .lss (.l 0) (i 0))])
   (.cond (.s 21) (.seq (.reg [w 3 (.mv (i 7))])
   (.ret [f,f,f,t,f,f,f,f,f,f,f,f,f,f,f,f,f,f,f,f,f,f,f,f,f,f,f]))
   .skip)))
   (.reg [q (.mv (.s 7)), q (.bin .add (.l 0) (i 1)), w 7 (.mv (.l 0))])))
def lockstepref11_Check_l1 : Go.A.Code := .loop [f,f,t,f,t,f,t,t,f,f,f,f,f,f,f,f,f,f,f,f,f,f,f,f,f,f,f] 1 lockstepref11_Check_b1
theorem lockstepref11_Check_l1_eq (T : Nat → Option Entry) (s : St) : exec T lockstepref11_Check_l1 s = (exec T lockstepref11_Check_b1 s).bind (loopK (exec T lockstepref11_Check_l1) [f,f,t,f,t,f,t,t,f,f,f,f,f,f,f,f,f,f,f,f,f,f,f,f,f,f,f] 1) := exec_loop T s _ _ _
def lockstepref11_Check_b2 : Go.A.Code :=
   (.seq (.seq (.reg [q (.mv (.s 8)), q (.mv (.s 6)), q (.len (.l 0)), w 22 (.bin .lss (.l 2) (.l 0))])
   (.cond (.s 22) .skip
   (.exit 4 [f,f,t,f,t,f,t,f,f,f,f,f,f,f,f,f,f,f,f,f,f,f,f,f,f,f,f] 1)))
   (.seq (.block 5 (.seq (.reg [q (.mv (.s 4)), q (.mv (.s 4)), q (.mv (.s 6)), q (.mv (.s 8)), q (.ia 5 (.l 1) (.l 0)), q (.fa 0 (.l 0)), q (.ld none (.l 0)), q (.call .cl (.c (.one (.fn F.lockstepref11_Find [] []))) [(.l 5), (.l 0)]), q (.ia 5 (.l 7) (.l 0)), q (.fa 3 (.l 0)), q (.ld (some 2) (.l 0)), q (.mv (.s 6)), q (.mv (.s 8)), q (.ia 5 (.l 1) (.l 0)), q (.fa 3 (.l 0)), q (.ld (some 2) (.l 0)), w 23 (.eqa 2 true (.l 5) (.l 0))])
   (.cond (.s 23) (.seq (.reg [w 3 (.mv (i 6))])
   (.ret [f,f,f,t,f,f,f,f,f,f,f,f,f,f,f,f,f,f,f,f,f,f,f,f,f,f,f]))
   .skip)))
   (.reg [q (.mv (.s 8)), q (.bin .add (.l 0) (i 1)), w 8 (.mv (.l 0))])))
def lockstepref11_Check_l2 : Go.A.Code := .loop [f,f,t,f,t,f,t,f,t,f,f,f,f,f,f,f,f,f,f,f,f,f,f,f,f,f,f] 1 lockstepref11_Check_b2
theorem lockstepref11_Check_l2_eq (T : Nat → Option Entry) (s : St) : exec T lockstepref11_Check_l2 s = (exec T lockstepref11_Check_b2 s).bind (loopK (exec T lockstepref11_Check_l2) [f,f,t,f,t,f,t,f,t,f,f,f,f,f,f,f,f,f,f,f,f,f,f,f,f,f,f] 1) := exec_loop T s _ _ _
def lockstepref11_Check_b3 : Go.A.Code :=
   (.seq (.seq (.reg [q (.mv (.s 11)), q (.mv (.s 6)), q (.len (.l 0)), w 24 (.bin .lss (.l 2) (.l 0))])
   (.cond (.s 24) .skip
   (.exit 6 [f,f,f,f,f,f,f,f,f,f,f,f,f,f,f,f,f,f,f,f,f,f,f,f,f,f,f] 2)))
   (.seq (.block 7 (.seq (.reg [q (.mv (.s 6)), q (.mv (.s 11)), q (.ia 5 (.l 1) (.l 0)), q (.ld (some 5) (.l 0)), w 12 (.al [.f (.lit (.int .i64 0)), .f (.lit (.int .i64 0)), .f (.lit (.int .i64 0)), .f (.lit (.int .i64 0)), .f (.lit (.int .i64 0))] []), e (.st 5 (.s 12) (.l 1))])
   (.seq (.reg [q (.mv (.s 4)), q (.mv (.s 4)), q (.fa 0 (.s 12)), q (.ld none (.l 0)), q (.call .cl (.c (.one (.fn F.lockstepref11_Find [] []))) [(.l 2), (.l 0)]), q (.ia 5 (.l 4) (.l 0)), q (.ld (some 5) (.l 0)), w 13 (.al [.f (.lit (.int .i64 0)), .f (.lit (.int .i64 0)), .f (.lit (.int .i64 0)), .f (.lit (.int .i64 0)), .f (.lit (.int .i64 0))] []), e (.st 5 (.s 13) (.l 1))])
   (.seq (.seq (.reg [q (.fa 1 (.s 13)), q (.ld none (.l 0)), q (.bin .lss (.l 0) (i 0)), q (.mv (.l 0)), ⟨.loc, .fa 1 (.s 13), (some (.l 0, false))⟩, ⟨.loc, .ld none (.l 0), (some (.l 1, false))⟩, ⟨.loc, .fa 1 (.s 12), (some (.l 2, false))⟩, ⟨.loc, .ld none (.l 0), (some (.l 3, false))⟩, ⟨.loc, .bin .eql (.l 2) (.l 0), (some (.l 4, false))⟩, ⟨.loc, .mv (.l 0), (some (.l 5, false))⟩, ⟨.loc, .fa 2 (.s 13), (some (.l 0, true))⟩, ⟨.loc, .ld none (.l 0), (some (.l 1, true))⟩, ⟨.loc, .fa 2 (.s 12), (some (.l 2, true))⟩, ⟨.loc, .ld none (.l 0), (some (.l 3, true))⟩, ⟨.loc, .bin .lss (.l 2) (.l 0), (some (.l 4, true))⟩, ⟨.loc, .pick (.l 5) (.l 0) (bo false), (some (.l 11, false))⟩, w 25 (.pick (.l 12) (bo true) (.l 0))])
   (.cond (.s 25) (.exit 7 [f,f,f,f,t,f,t,f,f,f,t,t,f,f,f,f,f,f,f,f,f,f,f,f,f,f,f] 2)
   .skip))
   (.seq (.reg [q (.fa 1 (.s 13)), q (.ld none (.l 0)), q (.fa 1 (.s 12)), q (.ld none (.l 0)), q (.bin .eql (.l 2) (.l 0)), q (.mv (.l 0)), ⟨.loc, .mv (.s 10), (some (.l 0, false))⟩, ⟨.loc, .fa 1 (.s 13), (some (.l 1, false))⟩, ⟨.loc, .ld none (.l 0), (some (.l 2, false))⟩, ⟨.loc, .fa 1 (.s 12), (some (.l 3, false))⟩, ⟨.loc, .ld none (.l 0), (some (.l 4, false))⟩, ⟨.loc, .call .cl (.c (.one (.fn F.lockstepref07_Meet [] []))) [(.l 4), (.l 2), (.l 0)], (some (.l 5, false))⟩, ⟨.loc, .fa 1 (.s 13), (some (.l 6, false))⟩, ⟨.loc, .ld none (.l 0), (some (.l 7, false))⟩, ⟨.loc, .bin .neq (.l 2) (.l 0), (some (.l 8, false))⟩, w 26 (.pick (.l 9) (bo true) (.l 0))])
   (.cond (.s 26) (.seq (.reg [w 3 (.mv (i 7))])
   (.ret [f,f,f,t,f,f,f,f,f,f,f,f,f,f,f,f,f,f,f,f,f,f,f,f,f,f,f]))
   .skip))))))
   (.reg [q (.mv (.s 11)), q (.bin .add (.l 0) (i 1)), w 11 (.mv (.l 0))])))
def lockstepref11_Check_l3 : Go.A.Code := .loop [f,f,f,f,t,f,t,f,f,f,t,t,f,f,f,f,f,f,f,f,f,f,f,f,f,f,f] 2 lockstepref11_Check_b3
theorem lockstepref11_Check_l3_eq (T : Nat → Option Entry) (s : St) : exec T lockstepref11_Check_l3 s = (exec T lockstepref11_Check_b3 s).bind (loopK (exec T lockstepref11_Check_l3) [f,f,f,f,t,f,t,f,f,f,t,t,f,f,f,f,f,f,f,f,f,f,f,f,f,f,f] 2) := exec_loop T s _ _ _
/-- lockstep/lockstepref11.Check -/
def a_lockstepref11_Check : Fun := { np := 2, nslots := 27, keep := 0, raw := false, results := [(3, none)], body :=
   (.seq (.reg [w 2 (.box 3 (.s 0)), w 3 (.mv (i 0))])
   (.seq (.seq (.reg [q (.mv (.s 1)), q (.bin .lss (.l 0) (i 0)), q (.mv (.l 0)), ⟨.loc, .mv (.s 1), (some (.l 0, false))⟩, ⟨.loc, .bin .gtr (.l 0) (i 2), (some (.l 1, false))⟩, w 14 (.pick (.l 2) (bo true) (.l 0))])
   (.cond (.s 14) (.seq (.reg [w 3 (.mv (i 1))])
   (.ret [f,f,f,t,f,f,f,f,f,f,f,f,f,f,f,f,f,f,f,f,f,f,f,f,f,f,f]))
   .skip))
   (.seq (.seq (.reg [q (.ld (some 3) (.s 2)), q (.call .cl (.c (.one (.fn F.lockstepref04_May [] []))) [(.l 0)]), w 15 (.un .not (.l 0))])
   (.cond (.s 15) (.seq (.reg [w 3 (.mv (i 4))])
   (.ret [f,f,f,t,f,f,f,f,f,f,f,f,f,f,f,f,f,f,f,f,f,f,f,f,f,f,f]))
   .skip))
   (.seq (.seq (.reg [q (.ld (some 3) (.s 2)), q (.call .cl (.c (.one (.fn F.lockstepref11_shape [] []))) [(.l 0)]), w 16 (.un .not (.l 0))])
   (.cond (.s 16) (.seq (.reg [w 3 (.mv (i 5))])
   (.ret [f,f,f,t,f,f,f,f,f,f,f,f,f,f,f,f,f,f,f,f,f,f,f,f,f,f,f]))
   .skip))
   (.seq (.seq (.reg [q (.ld (some 3) (.s 2)), q (.mv (.s 1)), q (.call .cl (.c (.one (.fn F.lockstepref11_typed [] []))) [(.l 1), (.l 0)]), w 17 (.un .not (.l 0))])
   (.cond (.s 17) (.seq (.reg [w 3 (.mv (i 6))])
   (.ret [f,f,f,t,f,f,f,f,f,f,f,f,f,f,f,f,f,f,f,f,f,f,f,f,f,f,f]))
   .skip))
   (.seq (.reg [q (.ld (some 3) (.s 2)), q (.call .cl (.c (.one (.fn F.lockstepref11_Defs [] []))) [(.l 0)]), w 4 (.mv (.l 0))])
   (.seq (.seq (.reg [w 5 (.mv (i 0))])
   (.block 0 lockstepref11_Check_l0))
   (.seq (.reg [q (.ld (some 3) (.s 2)), q (.call .cl (.c (.one (.fn F.lockstepref11_Uses [] []))) [(.l 0)]), w 6 (.mv (.l 0))])
   (.seq (.seq (.reg [w 7 (.mv (i 0))])
   (.block 2 lockstepref11_Check_l1))
   (.seq (.seq (.reg [w 8 (.mv (i 0))])
   (.block 4 lockstepref11_Check_l2))
   (.seq (.reg [q (.ld (some 3) (.s 2)), q (.call .cl (.c (.one (.fn F.lockstepref06_Of [] []))) [(.l 0)]), q (.mv (.l 0)), q (.ext (.l 0) 0), q (.ext (.l 1) 1), w 9 (.al [.f (.sl []), .f (.sl [])] []), e (.st 2 (.s 9) (.l 2)), q (.mv (.l 2))])
   (.seq (.reg [q (.ld (some 2) (.s 9)), q (.call .cl (.c (.one (.fn F.lockstepref07_Tree [] []))) [(.l 0), (i 0)]), w 10 (.mv (.l 0))])
   (.seq (.seq (.reg [w 11 (.mv (i 0))])
   (.block 6 lockstepref11_Check_l3))
   (.seq (.reg [w 3 (.mv (i 0))])
   (.ret [f,f,f,t,f,f,f,f,f,f,f,f,f,f,f,f,f,f,f,f,f,f,f,f,f,f,f]))))))))))))))) }
def k_lockstepref11_Check : List Go.Tmp := [0, 1, 2, 4, 5, 6, 7, 8, 9, 10, 12, 13, 14, 15, 21, 24, 27, 31, 37, 57, 63, 73, 77, 96, 107, 137, 153]
theorem c_lockstepref11_Check : chkFun Go.Proofs.Tryz.prog (drawsOf Go.Proofs.Tryz.prog) k_lockstepref11_Check Go.Proofs.Tryz.f28 a_lockstepref11_Check = true := by kernel_rfl

/-- lockstep/lockstepref03.Pure -/
def a_lockstepref03_Pure : Fun := { np := 1, nslots := 2, keep := 0, raw := false, results := [(1, none)], body :=
   (.seq (.reg [w 1 (.mv (bo false))])
   (.seq (.reg [q (.mv (.s 0)), q (.bin .geq (.l 0) (i 0)), q (.mv (.l 0)), ⟨.loc, .mv (.s 0), (some (.l 0, true))⟩, ⟨.loc, .bin .leq (.l 0) (i 22), (some (.l 1, true))⟩, q (.pick (.l 2) (.l 0) (bo false)), q (.mv (.l 0)), ⟨.loc, .mv (.s 0), (some (.l 0, true))⟩, ⟨.loc, .bin .neq (.l 0) (i 4), (some (.l 1, true))⟩, q (.pick (.l 2) (.l 0) (bo false)), q (.mv (.l 0)), ⟨.loc, .mv (.s 0), (some (.l 0, true))⟩, ⟨.loc, .bin .lss (.l 0) (i 16), (some (.l 1, true))⟩, ⟨.loc, .mv (.l 0), (some (.l 2, true))⟩, ⟨.loc, .mv (.s 0), (some (.l 0, false))⟩, ⟨.loc, .bin .gtr (.l 0) (i 20), (some (.l 1, false))⟩, ⟨.loc, .pick (.l 2) (bo true) (.l 0), (some (.l 5, true))⟩, q (.pick (.l 6) (.l 0) (bo false)), w 1 (.mv (.l 0))])
   (.ret [f,t]))) }
def k_lockstepref03_Pure : List Go.Tmp := [0, 2]
theorem c_lockstepref03_Pure : chkFun Go.Proofs.Tryz.prog (drawsOf Go.Proofs.Tryz.prog) k_lockstepref03_Pure Go.Proofs.Tryz.f29 a_lockstepref03_Pure = true := by kernel_rfl

/-- lockstep/locksteplaw17.awake -/
def a_locksteplaw17_awake : Fun := { np := 0, nslots := 6, keep := 0, raw := false, results := [(0, none)], body :=
   (.seq (.reg [w 0 (.mv (bo false))])
   (.seq (.reg [q (.bsl .fz 1 [[.f (.lit (.int .i64 0))]] [(0, (i 64))]), q (.bld [.f (.lit (.int .i64 0)), .f (.lit (.int .i64 0)), .f (.lit (.int .i64 0)), .f (.lit (.int .i64 0)), .f (.sl []), .f (.lit (.int .u64 0))] [(0, 1, (i 0)), (1, 1, (i 64)), (2, 1, (i 1)), (3, 1, (i 2)), (5, 1, (ik .u64 8))] []), q (.bsl .fz 1 [[.f (.lit (.int .i64 0))], [.f (.lit (.int .i64 0))]] [(0, (i 1)), (1, (i 2))]), q (.bld [.f (.lit (.int .i64 0)), .f (.lit (.int .i64 0)), .f (.lit (.int .i64 0)), .f (.lit (.int .i64 0)), .f (.sl []), .f (.lit (.int .u64 0))] [(0, 1, (i 1)), (1, 1, (i 64)), (2, 1, (i 1)), (3, 1, (i 3)), (4, 1, (.l 0))] []), q (.bsl .fz 1 [[.f (.lit (.int .i64 0))], [.f (.lit (.int .i64 0))]] [(0, (i 2)), (1, (i 3))]), q (.bld [.f (.lit (.int .i64 0)), .f (.lit (.int .i64 0)), .f (.lit (.int .i64 0)), .f (.lit (.int .i64 0)), .f (.sl []), .f (.lit (.int .u64 0))] [(0, 1, (i 3)), (1, 1, (i 64)), (2, 1, (i 1)), (3, 1, (i 4)), (4, 1, (.l 0))] []), q (.bsl .fz 6 [[.f (.lit (.int .i64 0)), .f (.lit (.int .i64 0)), .f (.lit (.int .i64 0)), .f (.lit (.int .i64 0)), .f (.sl []), .f (.lit (.int .u64 0))], [.f (.lit (.int .i64 0)), .f (.lit (.int .i64 0)), .f (.lit (.int .i64 0)), .f (.lit (.int .i64 0)), .f (.sl []), .f (.lit (.int .u64 0))], [.f (.lit (.int .i64 0)), .f (.lit (.int .i64 0)), .f (.lit (.int .i64 0)), .f (.lit (.int .i64 0)), .f (.sl []), .f (.lit (.int .u64 0))]] [(0, (.l 4)), (1, (.l 2)), (2, (.l 0))]), q (.bld [.f (.lit (.int .i64 0)), .f (.lit (.int .i64 0)), .f (.sl [])] [(0, 1, (i 0)), (1, 1, (i 4))] []), q (.bld [.f (.sl []), .f (.sl []), .f (.lit (.int .i64 0)), .f (.lit (.int .i64 0)), .f (.sl [])] [(1, 1, (.l 1)), (2, 3, (.l 0))] []), q (.bsl .fz 5 [[.f (.sl []), .f (.sl []), .f (.lit (.int .i64 0)), .f (.lit (.int .i64 0)), .f (.sl [])]] [(0, (.l 0))]), q (.bld [.f (.sl []), .f (.lit (.int .i64 0)), .f (.sl [])] [(0, 1, (.l 9)), (1, 1, (i 64)), (2, 1, (.l 0))] []), w 1 (.al [.f (.sl []), .f (.lit (.int .i64 0)), .f (.sl [])] []), e (.st 3 (.s 1) (.l 1))])
   (.seq (.reg [q (.ld (some 3) (.s 1)), q (.call .cl (.c (.one (.fn F.affine_Of [] []))) [(.l 0), (i 4)]), q (.mv (.l 0)), q (.ext (.l 0) 0), q (.ext (.l 1) 1), w 2 (.al [.f (.sl []), .f (.lit (.int .u64 0))] []), e (.st 2 (.s 2) (.l 2)), w 3 (.mv (.l 2))])
   (.seq (.reg [q (.ld (some 3) (.s 1)), q (.call .cl (.c (.one (.fn F.affine_Of [] []))) [(.l 0), (i 5)]), q (.mv (.l 0)), q (.ext (.l 0) 0), q (.ext (.l 1) 1), q (.al [.f (.sl []), .f (.lit (.int .u64 0))] []), e (.st 2 (.l 0) (.l 2)), w 4 (.mv (.l 2))])
   (.seq (.reg [q (.bld [.f (.lit (.int .i64 0)), .f (.lit (.int .u64 0))] [(0, 1, (i 1)), (1, 1, (ik .u64 8))] []), q (.bsl .fz 2 [[.f (.lit (.int .i64 0)), .f (.lit (.int .u64 0))]] [(0, (.l 0))]), q (.bld [.f (.sl []), .f (.lit (.int .u64 0))] [(0, 1, (.l 0)), (1, 1, (ik .u64 64))] []), w 5 (.al [.f (.sl []), .f (.lit (.int .u64 0))] []), e (.st 2 (.s 5) (.l 1))])
   (.seq (.reg [q (.mv (.s 3)), q (.bin .eql (.l 0) (i 0)), q (.mv (.l 0)), ⟨.loc, .ld (some 2) (.s 2), (some (.l 0, true))⟩, ⟨.loc, .ld (some 2) (.s 5), (some (.l 1, true))⟩, ⟨.loc, .call .cl (.c (.one (.fn F.affine_Same [] []))) [(.l 1), (.l 0)], (some (.l 2, true))⟩, q (.pick (.l 3) (.l 0) (bo false)), q (.mv (.l 0)), ⟨.loc, .mv (.s 4), (some (.l 0, true))⟩, ⟨.loc, .bin .eql (.l 0) (i 10), (some (.l 1, true))⟩, q (.pick (.l 2) (.l 0) (bo false)), q (.mv (.l 0)), ⟨.loc, .ld (some 2) (.s 5), (some (.l 0, true))⟩, ⟨.loc, .call .cl (.c (.one (.fn F.affine_May [] []))) [(.l 0)], (some (.l 1, true))⟩, q (.pick (.l 2) (.l 0) (bo false)), q (.mv (.l 0)), ⟨.loc, .ld (some 2) (.s 5), (some (.l 0, true))⟩, ⟨.loc, .ld (some 2) (.s 5), (some (.l 1, true))⟩, ⟨.loc, .call .cl (.c (.one (.fn F.affine_Minus [] []))) [(.l 1), (.l 0)], (some (.l 2, true))⟩, ⟨.loc, .bld [.f (.sl []), .f (.lit (.int .u64 0))] [] [], (some (.l 3, true))⟩, ⟨.loc, .call .cl (.c (.one (.fn F.affine_Same [] []))) [(.l 1), (.l 0)], (some (.l 4, true))⟩, q (.pick (.l 5) (.l 0) (bo false)), q (.mv (.l 0)), ⟨.loc, .ld (some 2) (.s 5), (some (.l 0, true))⟩, ⟨.loc, .ld (some 2) (.s 5), (some (.l 1, true))⟩, ⟨.loc, .call .cl (.c (.one (.fn F.affine_Plus [] []))) [(.l 1), (.l 0)], (some (.l 2, true))⟩, ⟨.loc, .fld 1 none (.l 0), (some (.l 3, true))⟩, ⟨.loc, .bin .eql (.l 0) (ik .u64 128), (some (.l 4, true))⟩, q (.pick (.l 5) (.l 0) (bo false)), q (.mv (.l 0)), ⟨.loc, .ld (some 2) (.s 5), (some (.l 0, true))⟩, ⟨.loc, .call .cl (.c (.one (.fn F.affine_Times [] []))) [(.l 0), (ik .u64 2)], (some (.l 1, true))⟩, ⟨.loc, .fld 0 none (.l 0), (some (.l 2, true))⟩, ⟨.loc, .len (.l 0), (some (.l 3, true))⟩, ⟨.loc, .bin .eql (.l 0) (i 1), (some (.l 4, true))⟩, q (.pick (.l 5) (.l 0) (bo false)), q (.mv (.l 0)), ⟨.loc, .ld (some 2) (.s 5), (some (.l 0, true))⟩, ⟨.loc, .call .cl (.c (.one (.fn F.affine_Times [] []))) [(.l 0), (ik .u64 2)], (some (.l 1, true))⟩, ⟨.loc, .fld 0 none (.l 0), (some (.l 2, true))⟩, ⟨.loc, .ia 2 (.l 0) (i 0), (some (.l 3, true))⟩, ⟨.loc, .fa 1 (.l 0), (some (.l 4, true))⟩, ⟨.loc, .ld none (.l 0), (some (.l 5, true))⟩, ⟨.loc, .bin .eql (.l 0) (ik .u64 16), (some (.l 6, true))⟩, q (.pick (.l 7) (.l 0) (bo false)), w 0 (.mv (.l 0))])
   (.ret [t,f,f,f,f,f]))))))) }
def k_locksteplaw17_awake : List Go.Tmp := [0, 1, 2, 3, 5, 6]
theorem c_locksteplaw17_awake : chkFun Go.Proofs.Tryz.prog (drawsOf Go.Proofs.Tryz.prog) k_locksteplaw17_awake Go.Proofs.Tryz.f30 a_locksteplaw17_awake = true := by kernel_rfl

/-- lockstep/affine.Plus -/
def a_affine_Plus : Fun := { np := 2, nslots := 6, keep := 0, raw := false, results := [(4, some (some 2))], body :=
   (.seq (.reg [w 2 (.box 2 (.s 0)), w 3 (.box 2 (.s 1)), w 4 (.al [.f (.sl []), .f (.lit (.int .u64 0))] [])])
   (.seq (.seq (.reg [q (.ld (some 2) (.s 2)), q (.ld (some 2) (.s 3)), q (.bsl .fz 2 [[.f (.sl []), .f (.lit (.int .u64 0))], [.f (.sl []), .f (.lit (.int .u64 0))]] [(0, (.l 1)), (1, (.l 0))]), q (.call .cl (.c (.one (.fn F.affine_may [] []))) [(.l 0)]), w 5 (.un .not (.l 0))])
   (.cond (.s 5) (.seq (.reg [q (.bld [.f (.sl []), .f (.lit (.int .u64 0))] [] []), e (.st 2 (.s 4) (.l 0))])
   (.ret [f,f,f,f,t,f]))
   .skip))
   (.seq (.reg [q (.ld (some 2) (.s 2)), q (.ld (some 2) (.s 3)), q (.call .op (.c (.one (.fn F.affine_both [] []))) [(.l 1), (.l 0), (.c (.one (.fn F.affine_Plus_1 [] [])))]), e (.st 2 (.s 4) (.l 0))])
   (.ret [f,f,f,f,t,f])))) }
def k_affine_Plus : List Go.Tmp := [0, 1, 2, 3, 4, 9]
theorem c_affine_Plus : chkFun Go.Proofs.Tryz.prog (drawsOf Go.Proofs.Tryz.prog) k_affine_Plus Go.Proofs.Tryz.f31 a_affine_Plus = true := by kernel_rfl

/-- lockstep/affine.Minus -/
def a_affine_Minus : Fun := { np := 2, nslots := 6, keep := 0, raw := false, results := [(4, some (some 2))], body :=
   (.seq (.reg [w 2 (.box 2 (.s 0)), w 3 (.box 2 (.s 1)), w 4 (.al [.f (.sl []), .f (.lit (.int .u64 0))] [])])
   (.seq (.seq (.reg [q (.ld (some 2) (.s 2)), q (.ld (some 2) (.s 3)), q (.bsl .fz 2 [[.f (.sl []), .f (.lit (.int .u64 0))], [.f (.sl []), .f (.lit (.int .u64 0))]] [(0, (.l 1)), (1, (.l 0))]), q (.call .cl (.c (.one (.fn F.affine_may [] []))) [(.l 0)]), w 5 (.un .not (.l 0))])
   (.cond (.s 5) (.seq (.reg [q (.bld [.f (.sl []), .f (.lit (.int .u64 0))] [] []), e (.st 2 (.s 4) (.l 0))])
   (.ret [f,f,f,f,t,f]))
   .skip))
   (.seq (.reg [q (.ld (some 2) (.s 2)), q (.ld (some 2) (.s 3)), q (.call .op (.c (.one (.fn F.affine_both [] []))) [(.l 1), (.l 0), (.c (.one (.fn F.affine_Minus_1 [] [])))]), e (.st 2 (.s 4) (.l 0))])
   (.ret [f,f,f,f,t,f])))) }
def k_affine_Minus : List Go.Tmp := [0, 1, 2, 3, 4, 9]
theorem c_affine_Minus : chkFun Go.Proofs.Tryz.prog (drawsOf Go.Proofs.Tryz.prog) k_affine_Minus Go.Proofs.Tryz.f32 a_affine_Minus = true := by kernel_rfl

/-- lockstep/affine.Times -/
def a_affine_Times : Fun := { np := 2, nslots := 6, keep := 0, raw := false, results := [(4, some (some 2))], body :=
   (.seq (.reg [w 2 (.box 2 (.s 0)), w 3 (.box 1 (.s 1)), w 4 (.al [.f (.sl []), .f (.lit (.int .u64 0))] [])])
   (.seq (.seq (.reg [q (.ld (some 2) (.s 2)), q (.call .cl (.c (.one (.fn F.affine_May [] []))) [(.l 0)]), w 5 (.un .not (.l 0))])
   (.cond (.s 5) (.seq (.reg [q (.bld [.f (.sl []), .f (.lit (.int .u64 0))] [] []), e (.st 2 (.s 4) (.l 0))])
   (.ret [f,f,f,f,t,f]))
   .skip))
   (.seq (.reg [q (.ld (some 2) (.s 2)), q (.bld [.f (.sl []), .f (.lit (.int .u64 0))] [] []), q (.mkf F.affine_Times_1 [] [(.s 3)]), q (.call .op (.c (.one (.fn F.affine_both [] []))) [(.l 2), (.l 1), (.l 0)]), e (.st 2 (.s 4) (.l 0))])
   (.ret [f,f,f,f,t,f])))) }
def k_affine_Times : List Go.Tmp := [0, 1, 2, 3, 4, 7]
theorem c_affine_Times : chkFun Go.Proofs.Tryz.prog (drawsOf Go.Proofs.Tryz.prog) k_affine_Times Go.Proofs.Tryz.f33 a_affine_Times = true := by kernel_rfl

def affine_May_b0 : Go.A.Code :=
   (.seq (.reg [w 8 (.bin .lss (.s 7) (.s 6))])
   (.seq (.cond (.s 8) .skip
   (.exit 0 [f,f,f,f,f,f,f,f,f,f] 1))
   (.seq (.block 1 (.seq (.reg [q (.ia 2 (.s 5) (.s 7)), q (.ld (some 2) (.l 0)), w 4 (.al [.f (.lit (.int .i64 0)), .f (.lit (.int .u64 0))] []), e (.st 2 (.s 4) (.l 1))])
   (.seq (.seq (.reg [q (.fa 0 (.s 4)), q (.ld none (.l 0)), q (.mv (.s 3)), q (.bin .leq (.l 1) (.l 0)), q (.mv (.l 0)), ⟨.loc, .fa 0 (.s 4), (some (.l 0, false))⟩, ⟨.loc, .ld none (.l 0), (some (.l 1, false))⟩, ⟨.loc, .bin .gtr (.l 0) (i 1023), (some (.l 2, false))⟩, q (.pick (.l 3) (bo true) (.l 0)), q (.mv (.l 0)), ⟨.loc, .fa 1 (.s 4), (some (.l 0, false))⟩, ⟨.loc, .ld none (.l 0), (some (.l 1, false))⟩, ⟨.loc, .bin .eql (.l 0) (ik .u64 0), (some (.l 2, false))⟩, w 9 (.pick (.l 3) (bo true) (.l 0))])
   (.cond (.s 9) (.seq (.reg [w 2 (.mv (bo false))])
   (.ret [f,f,t,f,f,f,f,f,f,f]))
   .skip))
   (.reg [q (.fa 0 (.s 4)), q (.ld none (.l 0)), w 3 (.mv (.l 0))]))))
   (.reg [q (.bin .add (.s 7) (i 1)), w 7 (.mv (.l 0))]))))
def affine_May_l0 : Go.A.Code := .loop [f,f,f,t,f,t,t,t,f,f] 1 affine_May_b0
theorem affine_May_l0_eq (T : Nat → Option Entry) (s : St) : exec T affine_May_l0 s = (exec T affine_May_b0 s).bind (loopK (exec T affine_May_l0) [f,f,f,t,f,t,t,t,f,f] 1) := exec_loop T s _ _ _
/-- lockstep/affine.May -/
def a_affine_May : Fun := { np := 1, nslots := 10, keep := 0, raw := false, results := [(2, none)], body :=
   (.seq (.reg [w 1 (.box 2 (.s 0)), w 2 (.mv (bo false))])
   (.seq (.reg [w 3 (.mv (i 0))])
   (.seq (.seq (.reg [q (.fa 0 (.s 1)), w 5 (.ld none (.l 0)), w 6 (.len (.s 5)), w 7 (.mv (i 0))])
   (.block 0 affine_May_l0))
   (.seq (.reg [w 2 (.mv (bo true))])
   (.ret [f,f,t,f,f,f,f,f,f,f]))))) }
def k_affine_May : List Go.Tmp := [0, 1, 2, 3, 5, 7, 8, 9, 10, 26]
theorem c_affine_May : chkFun Go.Proofs.Tryz.prog (drawsOf Go.Proofs.Tryz.prog) k_affine_May Go.Proofs.Tryz.f34 a_affine_May = true := by kernel_rfl

def lockstepref17_May_b0 : Go.A.Code :=
   (.seq (.seq (.reg [q (.mv (.s 3)), q (.fa 0 (.s 1)), q (.ld none (.l 0)), q (.len (.l 0)), w 4 (.bin .lss (.l 3) (.l 0))])
   (.cond (.s 4) .skip
   (.exit 0 [f,f,f,f,f,f] 1)))
   (.seq (.block 1 (.seq (.reg [q (.fa 0 (.s 1)), q (.ld none (.l 0)), q (.mv (.s 3)), q (.ia 2 (.l 1) (.l 0)), q (.fa 0 (.l 0)), q (.ld none (.l 0)), q (.bin .lss (.l 0) (i 1)), q (.mv (.l 0)), ⟨.loc, .fa 0 (.s 1), (some (.l 0, false))⟩, ⟨.loc, .ld none (.l 0), (some (.l 1, false))⟩, ⟨.loc, .mv (.s 3), (some (.l 2, false))⟩, ⟨.loc, .ia 2 (.l 1) (.l 0), (some (.l 3, false))⟩, ⟨.loc, .fa 0 (.l 0), (some (.l 4, false))⟩, ⟨.loc, .ld none (.l 0), (some (.l 5, false))⟩, ⟨.loc, .bin .gtr (.l 0) (i 1023), (some (.l 6, false))⟩, q (.pick (.l 7) (bo true) (.l 0)), q (.mv (.l 0)), ⟨.loc, .fa 0 (.s 1), (some (.l 0, false))⟩, ⟨.loc, .ld none (.l 0), (some (.l 1, false))⟩, ⟨.loc, .mv (.s 3), (some (.l 2, false))⟩, ⟨.loc, .ia 2 (.l 1) (.l 0), (some (.l 3, false))⟩, ⟨.loc, .fa 1 (.l 0), (some (.l 4, false))⟩, ⟨.loc, .ld none (.l 0), (some (.l 5, false))⟩, ⟨.loc, .bin .eql (.l 0) (ik .u64 0), (some (.l 6, false))⟩, q (.pick (.l 7) (bo true) (.l 0)), q (.mv (.l 0)), ⟨.loc, .mv (.s 3), (some (.l 0, false))⟩, ⟨.loc, .bin .gtr (.l 0) (i 0), (some (.l 1, false))⟩, ⟨.loc, .mv (.l 0), (some (.l 2, false))⟩, ⟨.loc, .fa 0 (.s 1), (some (.l 0, true))⟩, ⟨.loc, .ld none (.l 0), (some (.l 1, true))⟩, ⟨.loc, .mv (.s 3), (some (.l 2, true))⟩, ⟨.loc, .ia 2 (.l 1) (.l 0), (some (.l 3, true))⟩, ⟨.loc, .fa 0 (.l 0), (some (.l 4, true))⟩, ⟨.loc, .ld none (.l 0), (some (.l 5, true))⟩, ⟨.loc, .fa 0 (.s 1), (some (.l 6, true))⟩, ⟨.loc, .ld none (.l 0), (some (.l 7, true))⟩, ⟨.loc, .mv (.s 3), (some (.l 8, true))⟩, ⟨.loc, .bin .sub (.l 0) (i 1), (some (.l 9, true))⟩, ⟨.loc, .ia 2 (.l 2) (.l 0), (some (.l 10, true))⟩, ⟨.loc, .fa 0 (.l 0), (some (.l 11, true))⟩, ⟨.loc, .ld none (.l 0), (some (.l 12, true))⟩, ⟨.loc, .bin .leq (.l 7) (.l 0), (some (.l 13, true))⟩, ⟨.loc, .pick (.l 14) (.l 0) (bo false), (some (.l 17, false))⟩, w 5 (.pick (.l 18) (bo true) (.l 0))])
   (.cond (.s 5) (.seq (.reg [w 2 (.mv (bo false))])
   (.ret [f,f,t,f,f,f]))
   .skip)))
   (.reg [q (.mv (.s 3)), q (.bin .add (.l 0) (i 1)), w 3 (.mv (.l 0))])))
def lockstepref17_May_l0 : Go.A.Code := .loop [f,t,f,t,f,f] 1 lockstepref17_May_b0
theorem lockstepref17_May_l0_eq (T : Nat → Option Entry) (s : St) : exec T lockstepref17_May_l0 s = (exec T lockstepref17_May_b0 s).bind (loopK (exec T lockstepref17_May_l0) [f,t,f,t,f,f] 1) := exec_loop T s _ _ _
/-- lockstep/lockstepref17.May -/
def a_lockstepref17_May : Fun := { np := 1, nslots := 6, keep := 0, raw := false, results := [(2, none)], body :=
   (.seq (.reg [w 1 (.box 2 (.s 0)), w 2 (.mv (bo false))])
   (.seq (.seq (.reg [w 3 (.mv (i 0))])
   (.block 0 lockstepref17_May_l0))
   (.seq (.reg [w 2 (.mv (bo true))])
   (.ret [f,f,t,f,f,f])))) }
def k_lockstepref17_May : List Go.Tmp := [0, 1, 2, 3, 8, 55]
theorem c_lockstepref17_May : chkFun Go.Proofs.Tryz.prog (drawsOf Go.Proofs.Tryz.prog) k_lockstepref17_May Go.Proofs.Tryz.f35 a_lockstepref17_May = true := by kernel_rfl

/-- lockstep/affine.Same -/
def a_affine_Same : Fun := { np := 2, nslots := 5, keep := 0, raw := false, results := [(4, none)], body :=
   (.seq (.reg [w 2 (.box 2 (.s 0)), w 3 (.box 2 (.s 1)), w 4 (.mv (bo false))])
   (.seq (.reg [q (.fa 1 (.s 2)), q (.ld none (.l 0)), q (.fa 1 (.s 3)), q (.ld none (.l 0)), q (.bin .eql (.l 2) (.l 0)), q (.mv (.l 0)), ⟨.loc, .fa 0 (.s 2), (some (.l 0, true))⟩, ⟨.loc, .ld none (.l 0), (some (.l 1, true))⟩, ⟨.loc, .fa 0 (.s 3), (some (.l 2, true))⟩, ⟨.loc, .ld none (.l 0), (some (.l 3, true))⟩, ⟨.loc, .call .cl (.c (.one (.fn F.slices_Equal_Term [] []))) [(.l 2), (.l 0)], (some (.l 4, true))⟩, q (.pick (.l 5) (.l 0) (bo false)), w 4 (.mv (.l 0))])
   (.ret [f,f,f,f,t]))) }
def k_affine_Same : List Go.Tmp := [0, 1, 2, 3, 4]
theorem c_affine_Same : chkFun Go.Proofs.Tryz.prog (drawsOf Go.Proofs.Tryz.prog) k_affine_Same Go.Proofs.Tryz.f36 a_affine_Same = true := by kernel_rfl

def lockstepref17_Same_b0 : Go.A.Code :=
   (.seq (.seq (.reg [q (.mv (.s 5)), q (.fa 0 (.s 2)), q (.ld none (.l 0)), q (.len (.l 0)), w 7 (.bin .lss (.l 3) (.l 0))])
   (.cond (.s 7) .skip
   (.exit 0 [f,f,f,f,f,f,f,f,f] 2)))
   (.seq (.block 1 (.seq (.reg [q (.fa 0 (.s 2)), q (.ld none (.l 0)), q (.mv (.s 5)), q (.ia 2 (.l 1) (.l 0)), q (.ld (some 2) (.l 0)), q (.fa 0 (.s 3)), q (.ld none (.l 0)), q (.mv (.s 5)), q (.ia 2 (.l 1) (.l 0)), q (.ld (some 2) (.l 0)), w 8 (.eqa 2 true (.l 5) (.l 0))])
   (.cond (.s 8) (.seq (.reg [w 4 (.mv (bo false))])
   (.ret [f,f,f,f,t,f,f,f,f]))
   .skip)))
   (.reg [q (.mv (.s 5)), q (.bin .add (.l 0) (i 1)), w 5 (.mv (.l 0))])))
def lockstepref17_Same_l0 : Go.A.Code := .loop [f,f,t,t,f,t,f,f,f] 2 lockstepref17_Same_b0
theorem lockstepref17_Same_l0_eq (T : Nat → Option Entry) (s : St) : exec T lockstepref17_Same_l0 s = (exec T lockstepref17_Same_b0 s).bind (loopK (exec T lockstepref17_Same_l0) [f,f,t,t,f,t,f,f,f] 2) := exec_loop T s _ _ _
/-- lockstep/lockstepref17.Same -/
def a_lockstepref17_Same : Fun := { np := 2, nslots := 9, keep := 0, raw := false, results := [(4, none)], body :=
   (.seq (.reg [w 2 (.box 2 (.s 0)), w 3 (.box 2 (.s 1)), w 4 (.mv (bo false))])
   (.seq (.seq (.reg [q (.fa 1 (.s 2)), q (.ld none (.l 0)), q (.fa 1 (.s 3)), q (.ld none (.l 0)), q (.bin .neq (.l 2) (.l 0)), q (.mv (.l 0)), ⟨.loc, .fa 0 (.s 2), (some (.l 0, false))⟩, ⟨.loc, .ld none (.l 0), (some (.l 1, false))⟩, ⟨.loc, .len (.l 0), (some (.l 2, false))⟩, ⟨.loc, .fa 0 (.s 3), (some (.l 3, false))⟩, ⟨.loc, .ld none (.l 0), (some (.l 4, false))⟩, ⟨.loc, .len (.l 0), (some (.l 5, false))⟩, ⟨.loc, .bin .neq (.l 3) (.l 0), (some (.l 6, false))⟩, w 6 (.pick (.l 7) (bo true) (.l 0))])
   (.cond (.s 6) (.seq (.reg [w 4 (.mv (bo false))])
   (.ret [f,f,f,f,t,f,f,f,f]))
   .skip))
   (.seq (.seq (.reg [w 5 (.mv (i 0))])
   (.block 0 lockstepref17_Same_l0))
   (.seq (.reg [w 4 (.mv (bo true))])
   (.ret [f,f,f,f,t,f,f,f,f]))))) }
def k_lockstepref17_Same : List Go.Tmp := [0, 1, 2, 3, 4, 5, 19, 24, 37]
theorem c_lockstepref17_Same : chkFun Go.Proofs.Tryz.prog (drawsOf Go.Proofs.Tryz.prog) k_lockstepref17_Same Go.Proofs.Tryz.f37 a_lockstepref17_Same = true := by kernel_rfl

def lockstepref17_Mix_b0 : Go.A.Code :=
   (.seq (.seq (.reg [q (.mv (.s 9)), w 10 (.bin .lss (.l 0) (i 1024))])
   (.cond (.s 10) .skip
   (.exit 0 [f,t,f,t,f,f,t,t,t,f,f] 7)))
   (.seq (.block 1 (.reg [q (.mv (.s 7)), q (.mv (.s 9)), q (.mv (.s 7)), q (.mv (.s 9)), q (.nil (.l 1)), q (.fa 0 (.l 0)), q (.iaa 1024 1 (.l 0) (.l 2)), q (.ld none (.l 0)), q (.mv (.s 1)), q (.bin .mul (.l 1) (.l 0)), q (.mv (.s 8)), q (.mv (.s 9)), q (.nil (.l 1)), q (.fa 0 (.l 0)), q (.iaa 1024 1 (.l 0) (.l 2)), q (.ld none (.l 0)), q (.mv (.s 3)), q (.bin .mul (.l 1) (.l 0)), q (.bin .add (.l 8) (.l 0)), q (.nil (.l 18)), q (.fa 0 (.l 0)), q (.iaa 1024 1 (.l 0) (.l 19)), e (.st 1 (.l 0) (.l 3))]))
   (.reg [q (.mv (.s 9)), q (.bin .add (.l 0) (i 1)), w 9 (.mv (.l 0))])))
def lockstepref17_Mix_l0 : Go.A.Code := .loop [f,t,f,t,f,f,t,t,t,t,f] 7 lockstepref17_Mix_b0
theorem lockstepref17_Mix_l0_eq (T : Nat → Option Entry) (s : St) : exec T lockstepref17_Mix_l0 s = (exec T lockstepref17_Mix_b0 s).bind (loopK (exec T lockstepref17_Mix_l0) [f,t,f,t,f,f,t,t,t,t,f] 7) := exec_loop T s _ _ _
/-- lockstep/lockstepref17.Mix -/
def a_lockstepref17_Mix : Fun := { np := 4, nslots := 11, keep := 0, raw := false, results := [(6, some (some 2))], body :=
   (.seq (.reg [w 4 (.box 2 (.s 0)), w 5 (.box 2 (.s 2)), w 6 (.al [.f (.sl []), .f (.lit (.int .u64 0))] [])])
   (.seq (.reg [q (.ld (some 2) (.s 4)), q (.call .ck (.c (.one (.fn F.lockstepref17_Of [] []))) [(.l 0)]), w 7 (.mv (.l 0))])
   (.seq (.reg [q (.ld (some 2) (.s 5)), q (.call .ck (.c (.one (.fn F.lockstepref17_Of [] []))) [(.l 0)]), w 8 (.mv (.l 0))])
   (.seq (.seq (.reg [w 9 (.mv (i 0))])
   (.block 0 lockstepref17_Mix_l0))
   (.seq (.reg [q (.mv (.s 7)), q (.mv (.s 7)), q (.nil (.l 0)), q (.fa 1024 (.l 0)), q (.ld none (.l 0)), q (.mv (.s 1)), q (.bin .mul (.l 1) (.l 0)), q (.mv (.s 8)), q (.nil (.l 0)), q (.fa 1024 (.l 0)), q (.ld none (.l 0)), q (.mv (.s 3)), q (.bin .mul (.l 1) (.l 0)), q (.bin .add (.l 6) (.l 0)), q (.nil (.l 13)), q (.fa 1024 (.l 0)), e (.st 1 (.l 0) (.l 2))])
   (.seq (.reg [q (.mv (.s 7)), q (.call .op (.c (.one (.fn F.lockstepref17_Wide_Form [] []))) [(.l 0)]), e (.st 2 (.s 6) (.l 0))])
   (.ret [f,f,f,f,f,f,t,f,f,f,f]))))))) }
def k_lockstepref17_Mix : List Go.Tmp := [0, 1, 2, 3, 4, 6, 8, 9, 10, 11, 17]
theorem c_lockstepref17_Mix : chkFun Go.Proofs.Tryz.prog (drawsOf Go.Proofs.Tryz.prog) k_lockstepref17_Mix Go.Proofs.Tryz.f38 a_lockstepref17_Mix = true := by kernel_rfl

def affine_Of_b0 : Go.A.Code :=
   (.seq (.reg [w 18 (.bin .lss (.s 17) (.s 16))])
   (.seq (.cond (.s 18) .skip
   (.exit 2 [f,t,f,t,f,f,f,t,f,f,f,t,t,t,f,f,f,f,f] 14))
   (.seq (.block 3 (.seq (.reg [q (.ia 6 (.s 15) (.s 17)), q (.ld (some 6) (.l 0)), w 9 (.al [.f (.lit (.int .i64 0)), .f (.lit (.int .i64 0)), .f (.lit (.int .i64 0)), .f (.lit (.int .i64 0)), .f (.sl []), .f (.lit (.int .u64 0))] []), e (.st 6 (.s 9) (.l 1))])
   (.reg [q (.mv (.s 7)), q (.nil (.l 0)), q (.fa 0 (.l 0)), q (.ld none (.l 0)), q (.fa 3 (.s 9)), q (.ld none (.l 0)), q (.ld (some 6) (.s 9)), e (.mu (.l 3) (.l 1) (.l 0))])))
   (.reg [q (.bin .add (.s 17) (i 1)), w 17 (.mv (.l 0))]))))
def affine_Of_l0 : Go.A.Code := .loop [f,t,f,t,f,f,f,t,f,f,f,t,t,t,f,t,t,t,f] 14 affine_Of_b0
theorem affine_Of_l0_eq (T : Nat → Option Entry) (s : St) : exec T affine_Of_l0 s = (exec T affine_Of_b0 s).bind (loopK (exec T affine_Of_l0) [f,t,f,t,f,f,f,t,f,f,f,t,t,t,f,t,t,t,f] 14) := exec_loop T s _ _ _
def affine_Of_b1 : Go.A.Code :=
   (.seq (.reg [w 14 (.bin .lss (.s 13) (.s 12))])
   (.seq (.cond (.s 14) .skip
   (.exit 0 [f,t,f,t,f,f,f,t,f,f,f,f,f,f,f,f,f,f,f] 13))
   (.seq (.block 1 (.seq (.reg [q (.ia 5 (.s 11) (.s 13)), q (.ld (some 5) (.l 0)), w 8 (.al [.f (.sl []), .f (.sl []), .f (.lit (.int .i64 0)), .f (.lit (.int .i64 0)), .f (.sl [])] []), e (.st 5 (.s 8) (.l 1))])
   (.seq (.reg [q (.fa 1 (.s 8)), w 15 (.ld none (.l 0)), w 16 (.len (.s 15)), w 17 (.mv (i 0))])
   (.block 2 affine_Of_l0))))
   (.reg [q (.bin .add (.s 13) (i 1)), w 13 (.mv (.l 0))]))))
def affine_Of_l1 : Go.A.Code := .loop [f,t,f,t,f,f,f,t,f,f,f,t,t,t,f,f,f,f,f] 13 affine_Of_b1
theorem affine_Of_l1_eq (T : Nat → Option Entry) (s : St) : exec T affine_Of_l1 s = (exec T affine_Of_b1 s).bind (loopK (exec T affine_Of_l1) [f,t,f,t,f,f,f,t,f,f,f,t,t,t,f,f,f,f,f] 13) := exec_loop T s _ _ _
/-- lockstep/affine.Of -/
def a_affine_Of : Fun := { np := 2, nslots := 19, keep := 0, raw := false, results := [(3, some (some 2)), (4, none)], body :=
   (.seq (.reg [w 2 (.box 3 (.s 0)), w 3 (.al [.f (.sl []), .f (.lit (.int .u64 0))] []), w 4 (.mv (i 0))])
   (.seq (.seq (.reg [q (.ld (some 3) (.s 2)), q (.call .ck (.c (.one (.fn F.check_Shapes [] []))) [(.l 0)]), q (.mv (.s 1)), q (.lk (.agg [.f (.lit (.int .i64 0)), .f (.lit (.int .i64 0))]) true (.l 1) (.l 0)), q (.mv (.l 0)), q (.ext (.l 0) 0), q (.ext (.l 1) 1), w 5 (.al [.f (.lit (.int .i64 0)), .f (.lit (.int .i64 0))] []), e (.st 2 (.s 5) (.l 2)), w 6 (.mv (.l 2))])
   (.seq (.reg [q (.mv (.s 6)), q (.un .not (.l 0)), q (.mv (.l 0)), ⟨.loc, .ld (some 2) (.s 5), (some (.l 0, false))⟩, ⟨.loc, .bld [.f (.lit (.int .i64 0)), .f (.lit (.int .i64 0))] [(0, 1, (i 64)), (1, 1, (i 1))] [], (some (.l 1, false))⟩, ⟨.loc, .eqa 2 true (.l 1) (.l 0), (some (.l 2, false))⟩, w 10 (.pick (.l 3) (bo true) (.l 0))])
   (.cond (.s 10) (.seq (.reg [q (.bld [.f (.sl []), .f (.lit (.int .u64 0))] [] []), e (.st 2 (.s 3) (.l 0)), w 4 (.mv (i 10))])
   (.ret [f,f,f,t,t,f,f,f,f,f,f,f,f,f,f,f,f,f,f]))
   .skip)))
   (.seq (.reg [q (.mkm), q (.mkm), q (.bld [.f (.lit (.map none)), .f (.lit (.map none))] [(0, 1, (.l 1)), (1, 1, (.l 0))] []), q (.box 2 (.l 0)), w 7 (.mv (.l 0))])
   (.seq (.seq (.reg [q (.fa 2 (.s 2)), w 11 (.ld none (.l 0)), w 12 (.len (.s 11)), w 13 (.mv (i 0))])
   (.block 0 affine_Of_l1))
   (.seq (.reg [q (.mv (.s 7)), q (.mv (.s 1)), q (.call .op (.c (.one (.fn F.affine_finder_form [] []))) [(.l 1), (.l 0)]), e (.st 2 (.s 3) (.l 0)), w 4 (.mv (i 0))])
   (.ret [f,f,f,t,t,f,f,f,f,f,f,f,f,f,f,f,f,f,f])))))) }
def k_affine_Of : List Go.Tmp := [0, 1, 2, 4, 5, 6, 7, 8, 10, 12, 26, 33, 34, 35, 36, 40, 41, 42, 43]
theorem c_affine_Of : chkFun Go.Proofs.Tryz.prog (drawsOf Go.Proofs.Tryz.prog) k_affine_Of Go.Proofs.Tryz.f39 a_affine_Of = true := by kernel_rfl

/-- lockstep/lockstepref17.Find -/
def a_lockstepref17_Find : Fun := { np := 2, nslots := 9, keep := 0, raw := false, results := [(3, some (some 2)), (4, none)], body :=
   (.seq (.reg [w 2 (.box 3 (.s 0)), w 3 (.al [.f (.sl []), .f (.lit (.int .u64 0))] []), w 4 (.mv (i 0))])
   (.seq (.seq (.reg [q (.ld (some 3) (.s 2)), q (.call .cl (.c (.one (.fn F.lockstepref11_Check [] []))) [(.l 0), (i 2)]), w 7 (.bin .neq (.l 0) (i 0))])
   (.cond (.s 7) (.seq (.reg [q (.bld [.f (.sl []), .f (.lit (.int .u64 0))] [] []), e (.st 2 (.s 3) (.l 0)), w 4 (.mv (i 10))])
   (.ret [f,f,f,t,t,f,f,f,f]))
   .skip))
   (.seq (.reg [q (.ld (some 3) (.s 2)), q (.call .cl (.c (.one (.fn F.lockstepref11_Defs [] []))) [(.l 0)]), w 5 (.mv (.l 0))])
   (.seq (.reg [q (.mv (.s 5)), q (.mv (.s 1)), q (.call .cl (.c (.one (.fn F.lockstepref11_Find [] []))) [(.l 1), (.l 0)]), w 6 (.mv (.l 0))])
   (.seq (.seq (.reg [q (.mv (.s 6)), q (.bin .lss (.l 0) (i 0)), q (.mv (.l 0)), ⟨.loc, .mv (.s 5), (some (.l 0, false))⟩, ⟨.loc, .mv (.s 6), (some (.l 1, false))⟩, ⟨.loc, .ia 5 (.l 1) (.l 0), (some (.l 2, false))⟩, ⟨.loc, .fa 3 (.l 0), (some (.l 3, false))⟩, ⟨.loc, .ld (some 2) (.l 0), (some (.l 4, false))⟩, ⟨.loc, .bld [.f (.lit (.int .i64 0)), .f (.lit (.int .i64 0))] [(0, 1, (i 64)), (1, 1, (i 1))] [], (some (.l 5, false))⟩, ⟨.loc, .eqa 2 true (.l 1) (.l 0), (some (.l 6, false))⟩, w 8 (.pick (.l 7) (bo true) (.l 0))])
   (.cond (.s 8) (.seq (.reg [q (.bld [.f (.sl []), .f (.lit (.int .u64 0))] [] []), e (.st 2 (.s 3) (.l 0)), w 4 (.mv (i 10))])
   (.ret [f,f,f,t,t,f,f,f,f]))
   .skip))
   (.seq (.reg [q (.ld (some 3) (.s 2)), q (.call .cl (.c (.one (.fn F.lockstepref17_New [] []))) [(.l 0)]), q (.mv (.s 1)), q (.call .op (.c (.one (.fn F.lockstepref17_Finder_get [] []))) [(.l 1), (.l 0)]), e (.st 2 (.s 3) (.l 0)), w 4 (.mv (i 0))])
   (.ret [f,f,f,t,t,f,f,f,f]))))))) }
def k_lockstepref17_Find : List Go.Tmp := [0, 1, 2, 4, 5, 6, 7, 10, 27]
theorem c_lockstepref17_Find : chkFun Go.Proofs.Tryz.prog (drawsOf Go.Proofs.Tryz.prog) k_lockstepref17_Find Go.Proofs.Tryz.f40 a_lockstepref17_Find = true := by kernel_rfl

def lockstepref04_Small_b0 : Go.A.Code :=
   (.seq (.seq (.reg [q (.mv (.s 5)), q (.fa 2 (.s 1)), q (.ld none (.l 0)), q (.mv (.s 4)), q (.ia 5 (.l 1) (.l 0)), q (.fa 0 (.l 0)), q (.ld none (.l 0)), q (.len (.l 0)), q (.bin .lss (.l 7) (.l 0)), q (.mv (.l 0)), ⟨.loc, .mv (.s 3), (some (.l 0, true))⟩, ⟨.loc, .bin .leq (.l 0) (i 20000), (some (.l 1, true))⟩, w 8 (.pick (.l 2) (.l 0) (bo false))])
   (.cond (.s 8) .skip
   (.exit 2 [f,t,f,t,t,f,f,f,f,f] 1)))
   (.seq (.block 3 (.reg [q (.mv (.s 3)), q (.bin .add (.l 0) (i 1)), q (.fa 2 (.s 1)), q (.ld none (.l 0)), q (.mv (.s 4)), q (.ia 5 (.l 1) (.l 0)), q (.fa 0 (.l 0)), q (.ld none (.l 0)), q (.mv (.s 5)), q (.ia 4 (.l 1) (.l 0)), q (.fa 2 (.l 0)), q (.ld none (.l 0)), q (.len (.l 0)), q (.bin .add (.l 11) (.l 0)), q (.fa 2 (.s 1)), q (.ld none (.l 0)), q (.mv (.s 4)), q (.ia 5 (.l 1) (.l 0)), q (.fa 0 (.l 0)), q (.ld none (.l 0)), q (.mv (.s 5)), q (.ia 4 (.l 1) (.l 0)), q (.fa 3 (.l 0)), q (.ld none (.l 0)), q (.len (.l 0)), q (.bin .add (.l 11) (.l 0)), w 3 (.mv (.l 0))]))
   (.reg [q (.mv (.s 5)), q (.bin .add (.l 0) (i 1)), w 5 (.mv (.l 0))])))
def lockstepref04_Small_l0 : Go.A.Code := .loop [f,t,f,t,t,t,f,f,f,f] 1 lockstepref04_Small_b0
theorem lockstepref04_Small_l0_eq (T : Nat → Option Entry) (s : St) : exec T lockstepref04_Small_l0 s = (exec T lockstepref04_Small_b0 s).bind (loopK (exec T lockstepref04_Small_l0) [f,t,f,t,t,t,f,f,f,f] 1) := exec_loop T s _ _ _
def lockstepref04_Small_b1 : Go.A.Code :=
   (.seq (.seq (.reg [q (.mv (.s 6)), q (.fa 2 (.s 1)), q (.ld none (.l 0)), q (.mv (.s 4)), q (.ia 5 (.l 1) (.l 0)), q (.fa 1 (.l 0)), q (.ld none (.l 0)), q (.len (.l 0)), q (.bin .lss (.l 7) (.l 0)), q (.mv (.l 0)), ⟨.loc, .mv (.s 3), (some (.l 0, true))⟩, ⟨.loc, .bin .leq (.l 0) (i 20000), (some (.l 1, true))⟩, w 9 (.pick (.l 2) (.l 0) (bo false))])
   (.cond (.s 9) .skip
   (.exit 4 [f,t,f,t,t,f,f,f,f,f] 1)))
   (.seq (.block 5 (.reg [q (.mv (.s 3)), q (.bin .add (.l 0) (i 1)), q (.fa 2 (.s 1)), q (.ld none (.l 0)), q (.mv (.s 4)), q (.ia 5 (.l 1) (.l 0)), q (.fa 1 (.l 0)), q (.ld none (.l 0)), q (.mv (.s 6)), q (.ia 6 (.l 1) (.l 0)), q (.fa 4 (.l 0)), q (.ld none (.l 0)), q (.len (.l 0)), q (.bin .add (.l 11) (.l 0)), w 3 (.mv (.l 0))]))
   (.reg [q (.mv (.s 6)), q (.bin .add (.l 0) (i 1)), w 6 (.mv (.l 0))])))
def lockstepref04_Small_l1 : Go.A.Code := .loop [f,t,f,t,t,f,t,f,f,f] 1 lockstepref04_Small_b1
theorem lockstepref04_Small_l1_eq (T : Nat → Option Entry) (s : St) : exec T lockstepref04_Small_l1 s = (exec T lockstepref04_Small_b1 s).bind (loopK (exec T lockstepref04_Small_l1) [f,t,f,t,t,f,t,f,f,f] 1) := exec_loop T s _ _ _
def lockstepref04_Small_b2 : Go.A.Code :=
   (.seq (.seq (.reg [q (.mv (.s 4)), q (.fa 2 (.s 1)), q (.ld none (.l 0)), q (.len (.l 0)), q (.bin .lss (.l 3) (.l 0)), q (.mv (.l 0)), ⟨.loc, .mv (.s 3), (some (.l 0, true))⟩, ⟨.loc, .bin .leq (.l 0) (i 20000), (some (.l 1, true))⟩, w 7 (.pick (.l 2) (.l 0) (bo false))])
   (.cond (.s 7) .skip
   (.exit 0 [f,f,f,t,f,f,f,f,f,f] 1)))
   (.seq (.block 1 (.seq (.reg [q (.mv (.s 3)), q (.bin .add (.l 0) (i 1)), q (.fa 2 (.s 1)), q (.ld none (.l 0)), q (.mv (.s 4)), q (.ia 5 (.l 1) (.l 0)), q (.fa 2 (.l 0)), q (.fa 2 (.l 0)), q (.ld none (.l 0)), q (.len (.l 0)), q (.bin .add (.l 8) (.l 0)), w 3 (.mv (.l 0))])
   (.seq (.seq (.reg [w 5 (.mv (i 0))])
   (.block 2 lockstepref04_Small_l0))
   (.seq (.reg [w 6 (.mv (i 0))])
   (.block 4 lockstepref04_Small_l1)))))
   (.reg [q (.mv (.s 4)), q (.bin .add (.l 0) (i 1)), w 4 (.mv (.l 0))])))
def lockstepref04_Small_l2 : Go.A.Code := .loop [f,t,f,t,t,f,f,f,f,f] 1 lockstepref04_Small_b2
theorem lockstepref04_Small_l2_eq (T : Nat → Option Entry) (s : St) : exec T lockstepref04_Small_l2 s = (exec T lockstepref04_Small_b2 s).bind (loopK (exec T lockstepref04_Small_l2) [f,t,f,t,t,f,f,f,f,f] 1) := exec_loop T s _ _ _
/-- lockstep/lockstepref04.Small -/
def a_lockstepref04_Small : Fun := { np := 1, nslots := 10, keep := 0, raw := false, results := [(2, none)], body :=
   (.seq (.reg [w 1 (.box 3 (.s 0)), w 2 (.mv (bo false))])
   (.seq (.reg [q (.fa 0 (.s 1)), q (.ld none (.l 0)), q (.len (.l 0)), w 3 (.mv (.l 0))])
   (.seq (.seq (.reg [w 4 (.mv (i 0))])
   (.block 0 lockstepref04_Small_l2))
   (.seq (.reg [q (.mv (.s 3)), q (.bin .leq (.l 0) (i 20000)), w 2 (.mv (.l 0))])
   (.ret [f,f,t,f,f,f,f,f,f,f]))))) }
def k_lockstepref04_Small : List Go.Tmp := [0, 1, 2, 3, 4, 5, 6, 18, 44, 85]
theorem c_lockstepref04_Small : chkFun Go.Proofs.Tryz.prog (drawsOf Go.Proofs.Tryz.prog) k_lockstepref04_Small Go.Proofs.Tryz.f41 a_lockstepref04_Small = true := by kernel_rfl

/-- slices.Clone[[]lockstep/api.Block,lockstep/api.Block] -/
def a_slices_Clone_Block : Fun := { np := 1, nslots := 3, keep := 0, raw := false, results := [(1, none)], body :=
   (.seq (.reg [w 1 (.mv (.c (.one (.f (.sl [])))))])
   (.seq (.seq (.reg [q (.mv (.s 0)), w 2 (.bin .eql (.l 0) (.c (.one (.f (.sl [])))))])
   (.cond (.s 2) (.seq (.reg [w 1 (.mv (.c (.one (.f (.sl [])))))])
   (.ret [f,t,f]))
   .skip))
   (.seq (.reg [q (.bsl .tk 5 [] []), q (.mv (.s 0)), q (.app 5 (.l 1) (.l 0)), w 1 (.mv (.l 0))])
   (.ret [f,t,f])))) }
def k_slices_Clone_Block : List Go.Tmp := [0, 2, 4]
theorem c_slices_Clone_Block : chkFun Go.Proofs.Tryz.prog (drawsOf Go.Proofs.Tryz.prog) k_slices_Clone_Block Go.Proofs.Tryz.f42 a_slices_Clone_Block = true := by kernel_rfl

/-- lockstep/lockstepref03.Same -/
def a_lockstepref03_Same : Fun := { np := 2, nslots := 5, keep := 0, raw := false, results := [(4, none)], body :=
   (.seq (.reg [w 2 (.box 6 (.s 0)), w 3 (.box 6 (.s 1)), w 4 (.mv (bo false))])
   (.seq (.reg [q (.fa 0 (.s 2)), q (.ld none (.l 0)), q (.fa 0 (.s 3)), q (.ld none (.l 0)), q (.bin .eql (.l 2) (.l 0)), q (.mv (.l 0)), ⟨.loc, .fa 1 (.s 2), (some (.l 0, true))⟩, ⟨.loc, .ld none (.l 0), (some (.l 1, true))⟩, ⟨.loc, .fa 1 (.s 3), (some (.l 2, true))⟩, ⟨.loc, .ld none (.l 0), (some (.l 3, true))⟩, ⟨.loc, .bin .eql (.l 2) (.l 0), (some (.l 4, true))⟩, q (.pick (.l 5) (.l 0) (bo false)), q (.mv (.l 0)), ⟨.loc, .fa 2 (.s 2), (some (.l 0, true))⟩, ⟨.loc, .ld none (.l 0), (some (.l 1, true))⟩, ⟨.loc, .fa 2 (.s 3), (some (.l 2, true))⟩, ⟨.loc, .ld none (.l 0), (some (.l 3, true))⟩, ⟨.loc, .bin .eql (.l 2) (.l 0), (some (.l 4, true))⟩, q (.pick (.l 5) (.l 0) (bo false)), q (.mv (.l 0)), ⟨.loc, .fa 3 (.s 2), (some (.l 0, true))⟩, ⟨.loc, .ld none (.l 0), (some (.l 1, true))⟩, ⟨.loc, .fa 3 (.s 3), (some (.l 2, true))⟩, ⟨.loc, .ld none (.l 0), (some (.l 3, true))⟩, ⟨.loc, .bin .eql (.l 2) (.l 0), (some (.l 4, true))⟩, q (.pick (.l 5) (.l 0) (bo false)), q (.mv (.l 0)), ⟨.loc, .fa 5 (.s 2), (some (.l 0, true))⟩, ⟨.loc, .ld none (.l 0), (some (.l 1, true))⟩, ⟨.loc, .fa 5 (.s 3), (some (.l 2, true))⟩, ⟨.loc, .ld none (.l 0), (some (.l 3, true))⟩, ⟨.loc, .bin .eql (.l 2) (.l 0), (some (.l 4, true))⟩, q (.pick (.l 5) (.l 0) (bo false)), q (.mv (.l 0)), ⟨.loc, .fa 4 (.s 2), (some (.l 0, true))⟩, ⟨.loc, .ld none (.l 0), (some (.l 1, true))⟩, ⟨.loc, .fa 4 (.s 3), (some (.l 2, true))⟩, ⟨.loc, .ld none (.l 0), (some (.l 3, true))⟩, ⟨.loc, .call .cl (.c (.one (.fn F.lockstepref02_Ints [] []))) [(.l 2), (.l 0)], (some (.l 4, true))⟩, q (.pick (.l 5) (.l 0) (bo false)), w 4 (.mv (.l 0))])
   (.ret [f,f,f,f,t]))) }
def k_lockstepref03_Same : List Go.Tmp := [0, 1, 2, 3, 4]
theorem c_lockstepref03_Same : chkFun Go.Proofs.Tryz.prog (drawsOf Go.Proofs.Tryz.prog) k_lockstepref03_Same Go.Proofs.Tryz.f43 a_lockstepref03_Same = true := by kernel_rfl

/-- lockstep/sched.right -/
def a_sched_right : Fun := { np := 2, nslots := 4, keep := 0, raw := false, results := [(3, none)], body :=
   (.seq (.reg [w 2 (.box 3 (.s 0)), w 3 (.mv (bo false))])
   (.seq (.reg [q (.mv (.s 1)), q (.bin .geq (.l 0) (i 0)), q (.mv (.l 0)), ⟨.loc, .mv (.s 1), (some (.l 0, true))⟩, ⟨.loc, .fa 2 (.s 2), (some (.l 1, true))⟩, ⟨.loc, .ld none (.l 0), (some (.l 2, true))⟩, ⟨.loc, .len (.l 0), (some (.l 3, true))⟩, ⟨.loc, .bin .lss (.l 3) (.l 0), (some (.l 4, true))⟩, q (.pick (.l 5) (.l 0) (bo false)), q (.mv (.l 0)), ⟨.loc, .ld (some 3) (.s 2), (some (.l 0, true))⟩, ⟨.loc, .call .cl (.c (.one (.fn F.check_Check [] []))) [(.l 0), (i 2)], (some (.l 1, true))⟩, ⟨.loc, .bin .eql (.l 0) (i 0), (some (.l 2, true))⟩, q (.pick (.l 3) (.l 0) (bo false)), w 3 (.mv (.l 0))])
   (.ret [f,f,f,t]))) }
def k_sched_right : List Go.Tmp := [0, 1, 2, 4]
theorem c_sched_right : chkFun Go.Proofs.Tryz.prog (drawsOf Go.Proofs.Tryz.prog) k_sched_right Go.Proofs.Tryz.f44 a_sched_right = true := by kernel_rfl

def sched_legal_b0 : Go.A.Code :=
   (.seq (.reg [w 11 (.bin .lss (.s 10) (.s 9))])
   (.seq (.cond (.s 11) .skip
   (.exit 0 [f,f,f,f,f,f,f,f,f,f,f,f,f] 2))
   (.seq (.block 1 (.seq (.reg [q (.ia 1 (.s 8) (.s 10)), q (.ld none (.l 0)), w 6 (.mv (.l 0))])
   (.seq (.seq (.reg [q (.mv (.s 6)), q (.bin .lss (.l 0) (i 0)), q (.mv (.l 0)), ⟨.loc, .mv (.s 6), (some (.l 0, false))⟩, ⟨.loc, .fa 1 (.s 2), (some (.l 1, false))⟩, ⟨.loc, .ld none (.l 0), (some (.l 2, false))⟩, ⟨.loc, .len (.l 0), (some (.l 3, false))⟩, ⟨.loc, .bin .geq (.l 3) (.l 0), (some (.l 4, false))⟩, q (.pick (.l 5) (bo true) (.l 0)), q (.mv (.l 0)), ⟨.loc, .mv (.s 4), (some (.l 0, false))⟩, ⟨.loc, .mv (.s 6), (some (.l 1, false))⟩, ⟨.loc, .lk (.one (.f (.lit (.bool false)))) false (.l 1) (.l 0), (some (.l 2, false))⟩, q (.pick (.l 3) (bo true) (.l 0)), q (.mv (.l 0)), ⟨.loc, .mv (.s 4), (some (.l 0, false))⟩, ⟨.loc, .mv (.s 5), (some (.l 1, false))⟩, ⟨.loc, .mv (.s 6), (some (.l 2, false))⟩, ⟨.loc, .ia 1 (.l 1) (.l 0), (some (.l 3, false))⟩, ⟨.loc, .ld none (.l 0), (some (.l 4, false))⟩, ⟨.loc, .call .op (.c (.one (.fn F.sched_stands [] []))) [(.l 4), (.l 0)], (some (.l 5, false))⟩, ⟨.loc, .un .not (.l 0), (some (.l 6, false))⟩, w 12 (.pick (.l 7) (bo true) (.l 0))])
   (.cond (.s 12) (.seq (.reg [w 3 (.mv (bo false))])
   (.ret [f,f,f,t,f,f,f,f,f,f,f,f,f]))
   .skip))
   (.reg [q (.mv (.s 4)), q (.mv (.s 6)), e (.mu (.l 1) (.l 0) (bo true))]))))
   (.reg [q (.bin .add (.s 10) (i 1)), w 10 (.mv (.l 0))]))))
def sched_legal_l0 : Go.A.Code := .loop [f,f,t,f,t,t,f,f,t,t,t,f,f] 2 sched_legal_b0
theorem sched_legal_l0_eq (T : Nat → Option Entry) (s : St) : exec T sched_legal_l0 s = (exec T sched_legal_b0 s).bind (loopK (exec T sched_legal_l0) [f,f,t,f,t,t,f,f,t,t,t,f,f] 2) := exec_loop T s _ _ _
/-- lockstep/sched.legal -/
def a_sched_legal : Fun := { np := 2, nslots := 13, keep := 0, raw := false, results := [(3, none)], body :=
   (.seq (.reg [w 2 (.box 5 (.s 0)), w 3 (.mv (bo false))])
   (.seq (.seq (.reg [q (.mv (.s 1)), q (.len (.l 0)), q (.fa 1 (.s 2)), q (.ld none (.l 0)), q (.len (.l 0)), w 7 (.bin .neq (.l 3) (.l 0))])
   (.cond (.s 7) (.seq (.reg [w 3 (.mv (bo false))])
   (.ret [f,f,f,t,f,f,f,f,f,f,f,f,f]))
   .skip))
   (.seq (.reg [q (.mkm), w 4 (.mv (.l 0))])
   (.seq (.reg [q (.ld (some 5) (.s 2)), q (.call .cl (.c (.one (.fn F.sched_hangs [] []))) [(.l 0)]), w 5 (.mv (.l 0))])
   (.seq (.seq (.reg [w 8 (.mv (.s 1)), w 9 (.len (.s 8)), w 10 (.mv (i 0))])
   (.block 0 sched_legal_l0))
   (.seq (.reg [w 3 (.mv (bo true))])
   (.ret [f,f,f,t,f,f,f,f,f,f,f,f,f]))))))) }
def k_sched_legal : List Go.Tmp := [0, 1, 2, 4, 5, 6, 8, 14, 18, 19, 20, 21, 46]
theorem c_sched_legal : chkFun Go.Proofs.Tryz.prog (drawsOf Go.Proofs.Tryz.prog) k_sched_legal Go.Proofs.Tryz.f45 a_sched_legal = true := by kernel_rfl

def lockstepref06_Has_b0 : Go.A.Code :=
   (.seq (.seq (.reg [q (.mv (.s 3)), q (.mv (.s 0)), q (.len (.l 0)), w 4 (.bin .lss (.l 2) (.l 0))])
   (.cond (.s 4) .skip
   (.exit 0 [f,f,f,f,f,f] 0)))
   (.seq (.block 1 (.seq (.reg [q (.mv (.s 0)), q (.mv (.s 3)), q (.ia 1 (.l 1) (.l 0)), q (.ld none (.l 0)), q (.mv (.s 1)), w 5 (.bin .eql (.l 1) (.l 0))])
   (.cond (.s 5) (.seq (.reg [w 2 (.mv (bo true))])
   (.ret [f,f,t,f,f,f]))
   .skip)))
   (.reg [q (.mv (.s 3)), q (.bin .add (.l 0) (i 1)), w 3 (.mv (.l 0))])))
def lockstepref06_Has_l0 : Go.A.Code := .loop [t,t,f,t,f,f] 0 lockstepref06_Has_b0
theorem lockstepref06_Has_l0_eq (T : Nat → Option Entry) (s : St) : exec T lockstepref06_Has_l0 s = (exec T lockstepref06_Has_b0 s).bind (loopK (exec T lockstepref06_Has_l0) [t,t,f,t,f,f] 0) := exec_loop T s _ _ _
/-- lockstep/lockstepref06.Has -/
def a_lockstepref06_Has : Fun := { np := 2, nslots := 6, keep := 0, raw := false, results := [(2, none)], body :=
   (.seq (.reg [w 2 (.mv (bo false))])
   (.seq (.seq (.reg [w 3 (.mv (i 0))])
   (.block 0 lockstepref06_Has_l0))
   (.seq (.reg [w 2 (.mv (bo false))])
   (.ret [f,f,t,f,f,f])))) }
def k_lockstepref06_Has : List Go.Tmp := [0, 1, 4, 5, 9, 17]
theorem c_lockstepref06_Has : chkFun Go.Proofs.Tryz.prog (drawsOf Go.Proofs.Tryz.prog) k_lockstepref06_Has Go.Proofs.Tryz.f46 a_lockstepref06_Has = true := by kernel_rfl

def sched_hangs_b0 : Go.A.Code :=
   (.seq (.reg [w 18 (.bin .lss (.s 17) (.s 16))])
   (.seq (.cond (.s 18) .skip
   (.exit 2 [f,f,f,t,t,t,t,t,f,f,f,t,t,t,f,f,f,f,f,f,f,f] 1000000))
   (.seq (.block 3 (.seq (.reg [q (.ia 1 (.s 15) (.s 17)), q (.ld none (.l 0)), w 8 (.mv (.l 0))])
   (.seq (.reg [q (.mv (.s 4)), q (.mv (.s 8)), q (.lk (.one (.f (.lit (.int .i64 0)))) true (.l 1) (.l 0)), q (.mv (.l 0)), q (.ext (.l 0) 0), q (.ext (.l 1) 1), w 9 (.mv (.l 1)), w 10 (.mv (.l 1))])
   (.seq (.reg [w 19 (.mv (.s 10))])
   (.cond (.s 19) (.reg [q (.mv (.s 3)), q (.mv (.s 6)), q (.mv (.s 3)), q (.mv (.s 6)), q (.ia 1 (.l 1) (.l 0)), q (.ld none (.l 0)), q (.mv (.s 9)), q (.bsl .fz 1 [[.f (.lit (.int .i64 0))]] [(0, (.l 0))]), q (.app 1 (.l 2) (.l 0)), q (.ia 1 (.l 8) (.l 7)), e (.st 1 (.l 0) (.l 1))])
   .skip)))))
   (.reg [q (.bin .add (.s 17) (i 1)), w 17 (.mv (.l 0))]))))
def sched_hangs_l0 : Go.A.Code := .loop [f,f,f,t,t,t,t,t,f,f,f,t,t,t,f,t,t,t,f,f,f,f] 1000000 sched_hangs_b0
theorem sched_hangs_l0_eq (T : Nat → Option Entry) (s : St) : exec T sched_hangs_l0 s = (exec T sched_hangs_b0 s).bind (loopK (exec T sched_hangs_l0) [f,f,f,t,t,t,t,t,f,f,f,t,t,t,f,t,t,t,f,f,f,f] 1000000) := exec_loop T s _ _ _
def sched_hangs_b1 : Go.A.Code :=
   (.seq (.reg [w 14 (.bin .lss (.s 13) (.s 12))])
   (.seq (.cond (.s 14) .skip
   (.exit 0 [f,f,f,t,f,f,f,f,f,f,f,f,f,f,f,f,f,f,f,f,f,f] 1000000))
   (.seq (.block 1 (.seq (.reg [q (.mv (.s 13)), q (.ia 6 (.s 11) (.s 13)), q (.ld (some 6) (.l 0)), w 7 (.al [.f (.lit (.int .i64 0)), .f (.lit (.int .i64 0)), .f (.lit (.int .i64 0)), .f (.lit (.int .i64 0)), .f (.sl []), .f (.lit (.int .u64 0))] []), w 6 (.mv (.l 3)), e (.st 6 (.s 7) (.l 2))])
   (.seq (.seq (.reg [q (.fa 4 (.s 7)), w 15 (.ld none (.l 0)), w 16 (.len (.s 15)), w 17 (.mv (i 0))])
   (.block 2 sched_hangs_l0))
   (.seq (.seq (.reg [q (.fa 0 (.s 7)), q (.ld none (.l 0)), q (.call .cl (.c (.one (.fn F.kind_Pure [] []))) [(.l 0)]), w 20 (.un .not (.l 0))])
   (.cond (.s 20) (.seq (.reg [q (.mv (.s 3)), q (.mv (.s 6)), q (.mv (.s 3)), q (.mv (.s 6)), q (.ia 1 (.l 1) (.l 0)), q (.ld none (.l 0)), q (.mv (.s 5)), q (.app 1 (.l 1) (.l 0)), q (.ia 1 (.l 7) (.l 6)), e (.st 1 (.l 0) (.l 1))])
   (.reg [q (.mv (.s 5)), q (.mv (.s 6)), q (.bsl .fz 1 [[.f (.lit (.int .i64 0))]] [(0, (.l 0))]), q (.app 1 (.l 2) (.l 0)), w 5 (.mv (.l 0))]))
   .skip))
   (.seq (.seq (.reg [q (.fa 3 (.s 7)), q (.ld none (.l 0)), w 21 (.bin .gtr (.l 0) (i 0))])
   (.cond (.s 21) (.reg [q (.mv (.s 4)), q (.fa 3 (.s 7)), q (.ld none (.l 0)), q (.mv (.s 6)), e (.mu (.l 3) (.l 1) (.l 0))])
   .skip))
   (.seq (.reg [q (.mv (.s 3)), q (.mv (.s 6)), q (.ia 1 (.l 1) (.l 0)), q (.ld none (.l 0)), q (.call .op (.c (.one (.fn F.slices_Sort_int [] []))) [(.l 0)])])
   (.reg [q (.mv (.s 3)), q (.mv (.s 6)), q (.mv (.s 3)), q (.mv (.s 6)), q (.ia 1 (.l 1) (.l 0)), q (.ld none (.l 0)), q (.call .op (.c (.one (.fn F.slices_Compact_int [] []))) [(.l 0)]), q (.ia 1 (.l 6) (.l 5)), e (.st 1 (.l 0) (.l 1))])))))))
   (.reg [q (.bin .add (.s 13) (i 1)), w 13 (.mv (.l 0))]))))
def sched_hangs_l1 : Go.A.Code := .loop [f,f,f,t,t,t,f,f,f,f,f,t,t,t,f,f,f,f,f,f,f,f] 1000000 sched_hangs_b1
theorem sched_hangs_l1_eq (T : Nat → Option Entry) (s : St) : exec T sched_hangs_l1 s = (exec T sched_hangs_b1 s).bind (loopK (exec T sched_hangs_l1) [f,f,f,t,t,t,f,f,f,f,f,t,t,t,f,f,f,f,f,f,f,f] 1000000) := exec_loop T s _ _ _
/-- lockstep/sched.hangs -/
def a_sched_hangs : Fun := { np := 1, nslots := 22, keep := 0, raw := false, results := [(2, none)], body :=
   (.seq (.reg [w 1 (.box 5 (.s 0)), w 2 (.mv (.c (.one (.f (.sl [])))))])
   (.seq (.reg [q (.fa 1 (.s 1)), q (.ld none (.l 0)), q (.len (.l 0)), q (.mkr [.f (.sl [])] 0 1 (.l 0)), w 3 (.mv (.l 0))])
   (.seq (.reg [q (.mkm), w 4 (.mv (.l 0))])
   (.seq (.reg [w 5 (.nl .tk 1)])
   (.seq (.seq (.reg [q (.fa 1 (.s 1)), w 11 (.ld none (.l 0)), w 12 (.len (.s 11)), w 13 (.mv (i 0))])
   (.block 0 sched_hangs_l1))
   (.seq (.reg [q (.mv (.s 3)), w 2 (.mv (.l 0))])
   (.ret [f,f,t,f,f,f,f,f,f,f,f,f,f,f,f,f,f,f,f,f,f,f]))))))) }
def k_sched_hangs : List Go.Tmp := [0, 1, 2, 3, 4, 5, 6, 7, 9, 10, 11, 18, 19, 20, 21, 26, 27, 28, 29, 38, 53, 69]
theorem c_sched_hangs : chkFun Go.Proofs.Tryz.prog (drawsOf Go.Proofs.Tryz.prog) k_sched_hangs Go.Proofs.Tryz.f47 a_sched_hangs = true := by kernel_rfl

/-- lockstep/kind.Pure -/
def a_kind_Pure : Fun := { np := 1, nslots := 4, keep := 0, raw := false, results := [(1, none)], body :=
   (.seq (.reg [w 1 (.mv (bo false))])
   (.seq (.seq (.reg [w 2 (.mv (.s 0))])
   (.block 0 (.seq (.seq (.reg [q (.bin .eql (.s 2) (i 4)), w 3 (.mv (.l 0))])
   (.cond (.s 3) .skip
   (.seq (.reg [q (.bin .eql (.s 2) (i 16)), w 3 (.mv (.l 0))])
   (.cond (.s 3) .skip
   (.seq (.reg [q (.bin .eql (.s 2) (i 17)), w 3 (.mv (.l 0))])
   (.cond (.s 3) .skip
   (.seq (.reg [q (.bin .eql (.s 2) (i 18)), w 3 (.mv (.l 0))])
   (.cond (.s 3) .skip
   (.seq (.reg [q (.bin .eql (.s 2) (i 19)), w 3 (.mv (.l 0))])
   (.cond (.s 3) .skip
   (.reg [q (.bin .eql (.s 2) (i 20)), w 3 (.mv (.l 0))])))))))))))
   (.cond (.s 3) (.seq (.reg [w 1 (.mv (bo false))])
   (.ret [f,t,f,f]))
   .skip))))
   (.seq (.reg [q (.mv (.s 0)), q (.bin .geq (.l 0) (i 0)), q (.mv (.l 0)), ⟨.loc, .mv (.s 0), (some (.l 0, true))⟩, ⟨.loc, .bin .leq (.l 0) (i 22), (some (.l 1, true))⟩, q (.pick (.l 2) (.l 0) (bo false)), w 1 (.mv (.l 0))])
   (.ret [f,t,f,f])))) }
def k_kind_Pure : List Go.Tmp := [0, 2, 3, 4]
theorem c_kind_Pure : chkFun Go.Proofs.Tryz.prog (drawsOf Go.Proofs.Tryz.prog) k_kind_Pure Go.Proofs.Tryz.f48 a_kind_Pure = true := by kernel_rfl

/-- lockstep/sched.stands -/
def a_sched_stands : Fun := { np := 2, nslots := 4, keep := 0, raw := false, results := [(3, none)], body :=
   (.seq (.reg [w 2 (.box 1 (.s 0)), w 3 (.mv (bo false))])
   (.seq (.reg [q (.mv (.s 1)), q (.mkf F.sched_stands_1 [] [(.s 2)]), q (.call .op (.c (.one (.fn F.slices_ContainsFunc_int [] []))) [(.l 1), (.l 0)]), q (.un .not (.l 0)), w 3 (.mv (.l 0))])
   (.ret [f,f,f,t]))) }
def k_sched_stands : List Go.Tmp := [0, 1, 2, 4]
theorem c_sched_stands : chkFun Go.Proofs.Tryz.prog (drawsOf Go.Proofs.Tryz.prog) k_sched_stands Go.Proofs.Tryz.f49 a_sched_stands = true := by kernel_rfl

def lockstepref04_May_b0 : Go.A.Code :=
   (.seq (.seq (.reg [q (.mv (.s 5)), q (.fa 0 (.s 4)), q (.ld none (.l 0)), q (.len (.l 0)), w 11 (.bin .lss (.l 3) (.l 0))])
   (.cond (.s 11) .skip
   (.exit 2 [f,t,f,t,t,f,f,f,f,f,f,f,f,f,f,f] 2)))
   (.seq (.block 3 (.seq (.reg [q (.fa 0 (.s 4)), q (.ld none (.l 0)), q (.mv (.s 5)), q (.ia 4 (.l 1) (.l 0)), q (.ld (some 4) (.l 0)), w 6 (.al [.f (.lit (.int .i64 0)), .f (.lit (.int .i64 0)), .f (.sl []), .f (.sl [])] []), e (.st 4 (.s 6) (.l 1))])
   (.seq (.reg [q (.fa 0 (.s 6)), q (.ld none (.l 0)), q (.call .cl (.c (.one (.fn F.lockstepref04_num [] []))) [(.l 0)]), q (.un .not (.l 0)), q (.mv (.l 0)), ⟨.loc, .fa 1 (.s 6), (some (.l 0, false))⟩, ⟨.loc, .ld none (.l 0), (some (.l 1, false))⟩, ⟨.loc, .call .cl (.c (.one (.fn F.lockstepref04_num [] []))) [(.l 0)], (some (.l 2, false))⟩, ⟨.loc, .un .not (.l 0), (some (.l 3, false))⟩, q (.pick (.l 4) (bo true) (.l 0)), q (.mv (.l 0)), ⟨.loc, .fa 2 (.s 6), (some (.l 0, false))⟩, ⟨.loc, .ld none (.l 0), (some (.l 1, false))⟩, ⟨.loc, .call .cl (.c (.one (.fn F.lockstepref04_list [] []))) [(.l 0)], (some (.l 2, false))⟩, ⟨.loc, .un .not (.l 0), (some (.l 3, false))⟩, q (.pick (.l 4) (bo true) (.l 0)), q (.mv (.l 0)), ⟨.loc, .fa 3 (.s 6), (some (.l 0, false))⟩, ⟨.loc, .ld none (.l 0), (some (.l 1, false))⟩, ⟨.loc, .call .cl (.c (.one (.fn F.lockstepref04_list [] []))) [(.l 0)], (some (.l 2, false))⟩, ⟨.loc, .un .not (.l 0), (some (.l 3, false))⟩, w 12 (.pick (.l 4) (bo true) (.l 0))])
   (.cond (.s 12) (.seq (.reg [w 2 (.mv (bo false))])
   (.ret [f,f,t,f,f,f,f,f,f,f,f,f,f,f,f,f]))
   .skip))))
   (.reg [q (.mv (.s 5)), q (.bin .add (.l 0) (i 1)), w 5 (.mv (.l 0))])))
def lockstepref04_May_l0 : Go.A.Code := .loop [f,t,f,t,t,t,f,f,f,f,f,f,f,f,f,f] 2 lockstepref04_May_b0
theorem lockstepref04_May_l0_eq (T : Nat → Option Entry) (s : St) : exec T lockstepref04_May_l0 s = (exec T lockstepref04_May_b0 s).bind (loopK (exec T lockstepref04_May_l0) [f,t,f,t,t,t,f,f,f,f,f,f,f,f,f,f] 2) := exec_loop T s _ _ _
def lockstepref04_May_b1 : Go.A.Code :=
   (.seq (.seq (.reg [q (.mv (.s 7)), q (.fa 1 (.s 4)), q (.ld none (.l 0)), q (.len (.l 0)), w 13 (.bin .lss (.l 3) (.l 0))])
   (.cond (.s 13) .skip
   (.exit 4 [f,t,f,t,t,f,f,f,f,f,f,f,f,f,f,f] 2)))
   (.seq (.block 5 (.seq (.reg [q (.fa 1 (.s 4)), q (.ld none (.l 0)), q (.mv (.s 7)), q (.ia 6 (.l 1) (.l 0)), q (.ld (some 6) (.l 0)), w 8 (.al [.f (.lit (.int .i64 0)), .f (.lit (.int .i64 0)), .f (.lit (.int .i64 0)), .f (.lit (.int .i64 0)), .f (.sl []), .f (.lit (.int .u64 0))] []), e (.st 6 (.s 8) (.l 1))])
   (.seq (.reg [q (.fa 0 (.s 8)), q (.ld none (.l 0)), q (.call .cl (.c (.one (.fn F.lockstepref04_num [] []))) [(.l 0)]), q (.un .not (.l 0)), q (.mv (.l 0)), ⟨.loc, .fa 1 (.s 8), (some (.l 0, false))⟩, ⟨.loc, .ld none (.l 0), (some (.l 1, false))⟩, ⟨.loc, .call .cl (.c (.one (.fn F.lockstepref04_num [] []))) [(.l 0)], (some (.l 2, false))⟩, ⟨.loc, .un .not (.l 0), (some (.l 3, false))⟩, q (.pick (.l 4) (bo true) (.l 0)), q (.mv (.l 0)), ⟨.loc, .fa 2 (.s 8), (some (.l 0, false))⟩, ⟨.loc, .ld none (.l 0), (some (.l 1, false))⟩, ⟨.loc, .call .cl (.c (.one (.fn F.lockstepref04_num [] []))) [(.l 0)], (some (.l 2, false))⟩, ⟨.loc, .un .not (.l 0), (some (.l 3, false))⟩, q (.pick (.l 4) (bo true) (.l 0)), q (.mv (.l 0)), ⟨.loc, .fa 3 (.s 8), (some (.l 0, false))⟩, ⟨.loc, .ld none (.l 0), (some (.l 1, false))⟩, ⟨.loc, .call .cl (.c (.one (.fn F.lockstepref04_num [] []))) [(.l 0)], (some (.l 2, false))⟩, ⟨.loc, .un .not (.l 0), (some (.l 3, false))⟩, q (.pick (.l 4) (bo true) (.l 0)), q (.mv (.l 0)), ⟨.loc, .fa 4 (.s 8), (some (.l 0, false))⟩, ⟨.loc, .ld none (.l 0), (some (.l 1, false))⟩, ⟨.loc, .call .cl (.c (.one (.fn F.lockstepref04_list [] []))) [(.l 0)], (some (.l 2, false))⟩, ⟨.loc, .un .not (.l 0), (some (.l 3, false))⟩, w 14 (.pick (.l 4) (bo true) (.l 0))])
   (.cond (.s 14) (.seq (.reg [w 2 (.mv (bo false))])
   (.ret [f,f,t,f,f,f,f,f,f,f,f,f,f,f,f,f]))
   .skip))))
   (.reg [q (.mv (.s 7)), q (.bin .add (.l 0) (i 1)), w 7 (.mv (.l 0))])))
def lockstepref04_May_l1 : Go.A.Code := .loop [f,t,f,t,t,f,f,t,f,f,f,f,f,f,f,f] 2 lockstepref04_May_b1
theorem lockstepref04_May_l1_eq (T : Nat → Option Entry) (s : St) : exec T lockstepref04_May_l1 s = (exec T lockstepref04_May_b1 s).bind (loopK (exec T lockstepref04_May_l1) [f,t,f,t,t,f,f,t,f,f,f,f,f,f,f,f] 2) := exec_loop T s _ _ _
def lockstepref04_May_b2 : Go.A.Code :=
   (.seq (.seq (.reg [q (.mv (.s 3)), q (.fa 2 (.s 1)), q (.ld none (.l 0)), q (.len (.l 0)), w 10 (.bin .lss (.l 3) (.l 0))])
   (.cond (.s 10) .skip
   (.exit 0 [f,f,f,f,f,f,f,f,f,f,f,f,f,f,f,f] 1)))
   (.seq (.block 1 (.seq (.reg [q (.fa 2 (.s 1)), q (.ld none (.l 0)), q (.mv (.s 3)), q (.ia 5 (.l 1) (.l 0)), q (.ld (some 5) (.l 0)), w 4 (.al [.f (.sl []), .f (.sl []), .f (.lit (.int .i64 0)), .f (.lit (.int .i64 0)), .f (.sl [])] []), e (.st 5 (.s 4) (.l 1))])
   (.seq (.seq (.reg [w 5 (.mv (i 0))])
   (.block 2 lockstepref04_May_l0))
   (.seq (.seq (.reg [w 7 (.mv (i 0))])
   (.block 4 lockstepref04_May_l1))
   (.seq (.reg [q (.fa 2 (.s 4)), q (.fa 0 (.l 0)), q (.ld none (.l 0)), q (.call .cl (.c (.one (.fn F.lockstepref04_num [] []))) [(.l 0)]), q (.un .not (.l 0)), q (.mv (.l 0)), ⟨.loc, .fa 2 (.s 4), (some (.l 0, false))⟩, ⟨.loc, .fa 1 (.l 0), (some (.l 1, false))⟩, ⟨.loc, .ld none (.l 0), (some (.l 2, false))⟩, ⟨.loc, .call .cl (.c (.one (.fn F.lockstepref04_num [] []))) [(.l 0)], (some (.l 3, false))⟩, ⟨.loc, .un .not (.l 0), (some (.l 4, false))⟩, q (.pick (.l 5) (bo true) (.l 0)), q (.mv (.l 0)), ⟨.loc, .fa 2 (.s 4), (some (.l 0, false))⟩, ⟨.loc, .fa 2 (.l 0), (some (.l 1, false))⟩, ⟨.loc, .ld none (.l 0), (some (.l 2, false))⟩, ⟨.loc, .call .cl (.c (.one (.fn F.lockstepref04_list [] []))) [(.l 0)], (some (.l 3, false))⟩, ⟨.loc, .un .not (.l 0), (some (.l 4, false))⟩, w 15 (.pick (.l 5) (bo true) (.l 0))])
   (.cond (.s 15) (.seq (.reg [w 2 (.mv (bo false))])
   (.ret [f,f,t,f,f,f,f,f,f,f,f,f,f,f,f,f]))
   .skip))))))
   (.reg [q (.mv (.s 3)), q (.bin .add (.l 0) (i 1)), w 3 (.mv (.l 0))])))
def lockstepref04_May_l2 : Go.A.Code := .loop [f,t,f,t,f,f,f,f,f,f,f,f,f,f,f,f] 1 lockstepref04_May_b2
theorem lockstepref04_May_l2_eq (T : Nat → Option Entry) (s : St) : exec T lockstepref04_May_l2 s = (exec T lockstepref04_May_b2 s).bind (loopK (exec T lockstepref04_May_l2) [f,t,f,t,f,f,f,f,f,f,f,f,f,f,f,f] 1) := exec_loop T s _ _ _
/-- lockstep/lockstepref04.May -/
def a_lockstepref04_May : Fun := { np := 1, nslots := 16, keep := 0, raw := false, results := [(2, none)], body :=
   (.seq (.reg [w 1 (.box 3 (.s 0)), w 2 (.mv (bo false))])
   (.seq (.seq (.reg [q (.fa 2 (.s 1)), q (.ld none (.l 0)), q (.len (.l 0)), q (.bin .eql (.l 0) (i 0)), q (.mv (.l 0)), ⟨.loc, .fa 2 (.s 1), (some (.l 0, false))⟩, ⟨.loc, .ld none (.l 0), (some (.l 1, false))⟩, ⟨.loc, .len (.l 0), (some (.l 2, false))⟩, ⟨.loc, .bin .gtr (.l 0) (i 64), (some (.l 3, false))⟩, q (.pick (.l 4) (bo true) (.l 0)), q (.mv (.l 0)), ⟨.loc, .fa 0 (.s 1), (some (.l 0, false))⟩, ⟨.loc, .ld none (.l 0), (some (.l 1, false))⟩, ⟨.loc, .len (.l 0), (some (.l 2, false))⟩, ⟨.loc, .bin .gtr (.l 0) (i 16), (some (.l 3, false))⟩, q (.pick (.l 4) (bo true) (.l 0)), q (.mv (.l 0)), ⟨.loc, .fa 0 (.s 1), (some (.l 0, false))⟩, ⟨.loc, .ld none (.l 0), (some (.l 1, false))⟩, ⟨.loc, .call .cl (.c (.one (.fn F.lockstepref04_list [] []))) [(.l 0)], (some (.l 2, false))⟩, ⟨.loc, .un .not (.l 0), (some (.l 3, false))⟩, q (.pick (.l 4) (bo true) (.l 0)), q (.mv (.l 0)), ⟨.loc, .fa 1 (.s 1), (some (.l 0, false))⟩, ⟨.loc, .ld none (.l 0), (some (.l 1, false))⟩, ⟨.loc, .call .cl (.c (.one (.fn F.lockstepref04_num [] []))) [(.l 0)], (some (.l 2, false))⟩, ⟨.loc, .un .not (.l 0), (some (.l 3, false))⟩, q (.pick (.l 4) (bo true) (.l 0)), q (.mv (.l 0)), ⟨.loc, .ld (some 3) (.s 1), (some (.l 0, false))⟩, ⟨.loc, .call .cl (.c (.one (.fn F.lockstepref04_Size [] []))) [(.l 0)], (some (.l 1, false))⟩, ⟨.loc, .bin .gtr (.l 0) (i 512), (some (.l 2, false))⟩, w 9 (.pick (.l 3) (bo true) (.l 0))])
   (.cond (.s 9) (.seq (.reg [w 2 (.mv (bo false))])
   (.ret [f,f,t,f,f,f,f,f,f,f,f,f,f,f,f,f]))
   .skip))
   (.seq (.seq (.reg [w 3 (.mv (i 0))])
   (.block 0 lockstepref04_May_l2))
   (.seq (.reg [w 2 (.mv (bo true))])
   (.ret [f,f,t,f,f,f,f,f,f,f,f,f,f,f,f,f]))))) }
def k_lockstepref04_May : List Go.Tmp := [0, 1, 2, 3, 4, 5, 6, 7, 8, 41, 46, 58, 87, 92, 127, 146]
theorem c_lockstepref04_May : chkFun Go.Proofs.Tryz.prog (drawsOf Go.Proofs.Tryz.prog) k_lockstepref04_May Go.Proofs.Tryz.f50 a_lockstepref04_May = true := by kernel_rfl

def lockstepref11_shape_b0 : Go.A.Code :=
   (.seq (.seq (.reg [q (.mv (.s 8)), q (.fa 0 (.s 7)), q (.ld none (.l 0)), q (.len (.l 0)), w 12 (.bin .lss (.l 3) (.l 0))])
   (.cond (.s 12) .skip
   (.exit 2 [f,t,f,t,f,t,t,f,f,f,f,f,f,f] 3)))
   (.seq (.block 3 (.seq (.reg [q (.fa 0 (.s 7)), q (.ld none (.l 0)), q (.mv (.s 8)), q (.ia 4 (.l 1) (.l 0)), q (.fa 2 (.l 0)), q (.ld none (.l 0)), q (.fa 1 (.s 3)), q (.ld none (.l 0)), q (.mv (.s 6)), q (.ia 1 (.l 1) (.l 0)), q (.ld none (.l 0)), q (.call .cl (.c (.one (.fn F.lockstepref02_Ints [] []))) [(.l 5), (.l 0)]), q (.un .not (.l 0)), q (.mv (.l 0)), ⟨.loc, .fa 0 (.s 7), (some (.l 0, false))⟩, ⟨.loc, .ld none (.l 0), (some (.l 1, false))⟩, ⟨.loc, .mv (.s 8), (some (.l 2, false))⟩, ⟨.loc, .ia 4 (.l 1) (.l 0), (some (.l 3, false))⟩, ⟨.loc, .fa 3 (.l 0), (some (.l 4, false))⟩, ⟨.loc, .ld none (.l 0), (some (.l 5, false))⟩, ⟨.loc, .len (.l 0), (some (.l 6, false))⟩, ⟨.loc, .fa 1 (.s 3), (some (.l 7, false))⟩, ⟨.loc, .ld none (.l 0), (some (.l 8, false))⟩, ⟨.loc, .mv (.s 6), (some (.l 9, false))⟩, ⟨.loc, .ia 1 (.l 1) (.l 0), (some (.l 10, false))⟩, ⟨.loc, .ld none (.l 0), (some (.l 11, false))⟩, ⟨.loc, .len (.l 0), (some (.l 12, false))⟩, ⟨.loc, .bin .neq (.l 6) (.l 0), (some (.l 13, false))⟩, w 13 (.pick (.l 14) (bo true) (.l 0))])
   (.cond (.s 13) (.seq (.reg [w 2 (.mv (bo false))])
   (.ret [f,f,t,f,f,f,f,f,f,f,f,f,f,f]))
   .skip)))
   (.reg [q (.mv (.s 8)), q (.bin .add (.l 0) (i 1)), w 8 (.mv (.l 0))])))
def lockstepref11_shape_l0 : Go.A.Code := .loop [f,t,f,t,f,t,t,t,t,f,f,f,f,f] 3 lockstepref11_shape_b0
theorem lockstepref11_shape_l0_eq (T : Nat → Option Entry) (s : St) : exec T lockstepref11_shape_l0 s = (exec T lockstepref11_shape_b0 s).bind (loopK (exec T lockstepref11_shape_l0) [f,t,f,t,f,t,t,t,t,f,f,f,f,f] 3) := exec_loop T s _ _ _
def lockstepref11_shape_b1 : Go.A.Code :=
   (.seq (.seq (.reg [q (.mv (.s 6)), q (.fa 2 (.s 1)), q (.ld none (.l 0)), q (.len (.l 0)), w 10 (.bin .lss (.l 3) (.l 0))])
   (.cond (.s 10) .skip
   (.exit 0 [f,f,f,f,f,f,f,f,f,f,f,f,f,f] 2)))
   (.seq (.block 1 (.seq (.reg [q (.fa 2 (.s 1)), q (.ld none (.l 0)), q (.mv (.s 6)), q (.ia 5 (.l 1) (.l 0)), q (.ld (some 5) (.l 0)), w 7 (.al [.f (.sl []), .f (.sl []), .f (.lit (.int .i64 0)), .f (.lit (.int .i64 0)), .f (.sl [])] []), e (.st 5 (.s 7) (.l 1))])
   (.seq (.seq (.reg [q (.mv (.s 5)), q (.mv (.s 6)), q (.ia 1 (.l 1) (.l 0)), q (.ld none (.l 0)), q (.un .not (.l 0)), q (.mv (.l 0)), ⟨.loc, .fa 2 (.s 7), (some (.l 0, false))⟩, ⟨.loc, .fa 0 (.l 0), (some (.l 1, false))⟩, ⟨.loc, .ld none (.l 0), (some (.l 2, false))⟩, ⟨.loc, .bin .eql (.l 0) (i 1), (some (.l 3, false))⟩, ⟨.loc, .mv (.l 0), (some (.l 4, false))⟩, ⟨.loc, .fa 2 (.s 7), (some (.l 0, false))⟩, ⟨.loc, .fa 0 (.l 0), (some (.l 1, false))⟩, ⟨.loc, .ld none (.l 0), (some (.l 2, false))⟩, ⟨.loc, .bin .eql (.l 0) (i 3), (some (.l 3, false))⟩, ⟨.loc, .pick (.l 4) (bo true) (.l 0), (some (.l 9, false))⟩, ⟨.loc, .mv (.l 0), (some (.l 10, false))⟩, ⟨.loc, .fa 2 (.s 7), (some (.l 0, true))⟩, ⟨.loc, .fa 1 (.l 0), (some (.l 1, true))⟩, ⟨.loc, .ld none (.l 0), (some (.l 2, true))⟩, ⟨.loc, .bin .neq (.l 0) (i 0), (some (.l 3, true))⟩, ⟨.loc, .pick (.l 4) (.l 0) (bo false), (some (.l 15, false))⟩, w 11 (.pick (.l 16) (bo true) (.l 0))])
   (.cond (.s 11) (.seq (.reg [w 2 (.mv (bo false))])
   (.ret [f,f,t,f,f,f,f,f,f,f,f,f,f,f]))
   .skip))
   (.seq (.reg [w 8 (.mv (i 0))])
   (.block 2 lockstepref11_shape_l0)))))
   (.reg [q (.mv (.s 6)), q (.bin .add (.l 0) (i 1)), w 6 (.mv (.l 0))])))
def lockstepref11_shape_l1 : Go.A.Code := .loop [f,t,f,t,f,t,t,f,f,f,f,f,f,f] 2 lockstepref11_shape_b1
theorem lockstepref11_shape_l1_eq (T : Nat → Option Entry) (s : St) : exec T lockstepref11_shape_l1 s = (exec T lockstepref11_shape_b1 s).bind (loopK (exec T lockstepref11_shape_l1) [f,t,f,t,f,t,t,f,f,f,f,f,f,f] 2) := exec_loop T s _ _ _
/-- lockstep/lockstepref11.shape -/
def a_lockstepref11_shape : Fun := { np := 1, nslots := 14, keep := 0, raw := false, results := [(2, none)], body :=
   (.seq (.reg [w 1 (.box 3 (.s 0)), w 2 (.mv (bo false))])
   (.seq (.reg [q (.ld (some 3) (.s 1)), q (.call .cl (.c (.one (.fn F.lockstepref06_Of [] []))) [(.l 0)]), q (.mv (.l 0)), q (.ext (.l 0) 0), q (.ext (.l 1) 1), w 3 (.al [.f (.sl []), .f (.sl [])] []), e (.st 2 (.s 3) (.l 2)), w 4 (.mv (.l 2))])
   (.seq (.seq (.reg [q (.mv (.s 4)), w 9 (.bin .neq (.l 0) (i 0))])
   (.cond (.s 9) (.seq (.reg [w 2 (.mv (bo false))])
   (.ret [f,f,t,f,f,f,f,f,f,f,f,f,f,f]))
   .skip))
   (.seq (.reg [q (.ld (some 2) (.s 3)), q (.call .cl (.c (.one (.fn F.lockstepref06_Reach [] []))) [(.l 0), (i 0), (i (-1))]), w 5 (.mv (.l 0))])
   (.seq (.seq (.reg [w 6 (.mv (i 0))])
   (.block 0 lockstepref11_shape_l1))
   (.seq (.reg [w 2 (.mv (bo true))])
   (.ret [f,f,t,f,f,f,f,f,f,f,f,f,f,f]))))))) }
def k_lockstepref11_shape : List Go.Tmp := [0, 1, 2, 3, 4, 5, 6, 7, 8, 15, 22, 52, 57, 88]
theorem c_lockstepref11_shape : chkFun Go.Proofs.Tryz.prog (drawsOf Go.Proofs.Tryz.prog) k_lockstepref11_shape Go.Proofs.Tryz.f51 a_lockstepref11_shape = true := by kernel_rfl

def lockstepref11_typed_b0 : Go.A.Code :=
   (.seq (.seq (.reg [q (.mv (.s 4)), q (.fa 0 (.s 2)), q (.ld none (.l 0)), q (.len (.l 0)), w 10 (.bin .lss (.l 3) (.l 0))])
   (.cond (.s 10) .skip
   (.exit 0 [f,t,t,f,f,f,f,f,f,f,f,f,f,f,f,f,f,f,f] 1)))
   (.seq (.block 1 (.seq (.reg [q (.fa 0 (.s 2)), q (.ld none (.l 0)), q (.mv (.s 4)), q (.ia 1 (.l 1) (.l 0)), q (.ld none (.l 0)), q (.call .cl (.c (.one (.fn F.lockstepref01_May [] []))) [(.l 0)]), w 11 (.un .not (.l 0))])
   (.cond (.s 11) (.seq (.reg [w 3 (.mv (bo false))])
   (.ret [f,f,f,t,f,f,f,f,f,f,f,f,f,f,f,f,f,f,f]))
   .skip)))
   (.reg [q (.mv (.s 4)), q (.bin .add (.l 0) (i 1)), w 4 (.mv (.l 0))])))
def lockstepref11_typed_l0 : Go.A.Code := .loop [f,t,t,f,t,f,f,f,f,f,f,f,f,f,f,f,f,f,f] 1 lockstepref11_typed_b0
theorem lockstepref11_typed_l0_eq (T : Nat → Option Entry) (s : St) : exec T lockstepref11_typed_l0 s = (exec T lockstepref11_typed_b0 s).bind (loopK (exec T lockstepref11_typed_l0) [f,t,t,f,t,f,f,f,f,f,f,f,f,f,f,f,f,f,f] 1) := exec_loop T s _ _ _
def lockstepref11_typed_b1 : Go.A.Code :=
   (.seq (.seq (.reg [q (.mv (.s 6)), q (.fa 2 (.s 2)), q (.ld none (.l 0)), q (.mv (.s 5)), q (.ia 5 (.l 1) (.l 0)), q (.fa 0 (.l 0)), q (.ld none (.l 0)), q (.len (.l 0)), w 13 (.bin .lss (.l 7) (.l 0))])
   (.cond (.s 13) .skip
   (.exit 4 [f,t,t,f,f,t,f,f,f,f,f,f,f,f,f,f,f,f,f] 1)))
   (.seq (.block 5 (.seq (.reg [q (.fa 2 (.s 2)), q (.ld none (.l 0)), q (.mv (.s 5)), q (.ia 5 (.l 1) (.l 0)), q (.fa 0 (.l 0)), q (.ld none (.l 0)), q (.mv (.s 6)), q (.ia 4 (.l 1) (.l 0)), q (.fa 0 (.l 0)), q (.ld none (.l 0)), q (.call .cl (.c (.one (.fn F.lockstepref01_May [] []))) [(.l 0)]), w 14 (.un .not (.l 0))])
   (.cond (.s 14) (.seq (.reg [w 3 (.mv (bo false))])
   (.ret [f,f,f,t,f,f,f,f,f,f,f,f,f,f,f,f,f,f,f]))
   .skip)))
   (.reg [q (.mv (.s 6)), q (.bin .add (.l 0) (i 1)), w 6 (.mv (.l 0))])))
def lockstepref11_typed_l1 : Go.A.Code := .loop [f,t,t,f,f,t,t,f,f,f,f,f,f,f,f,f,f,f,f] 1 lockstepref11_typed_b1
theorem lockstepref11_typed_l1_eq (T : Nat → Option Entry) (s : St) : exec T lockstepref11_typed_l1 s = (exec T lockstepref11_typed_b1 s).bind (loopK (exec T lockstepref11_typed_l1) [f,t,t,f,f,t,t,f,f,f,f,f,f,f,f,f,f,f,f] 1) := exec_loop T s _ _ _
def lockstepref11_typed_b2 : Go.A.Code :=
   (.seq (.seq (.reg [q (.mv (.s 7)), q (.fa 2 (.s 2)), q (.ld none (.l 0)), q (.mv (.s 5)), q (.ia 5 (.l 1) (.l 0)), q (.fa 1 (.l 0)), q (.ld none (.l 0)), q (.len (.l 0)), w 15 (.bin .lss (.l 7) (.l 0))])
   (.cond (.s 15) .skip
   (.exit 6 [f,t,t,f,f,t,f,f,f,f,f,f,f,f,f,f,f,f,f] 1)))
   (.seq (.block 7 (.seq (.reg [q (.fa 2 (.s 2)), q (.ld none (.l 0)), q (.mv (.s 5)), q (.ia 5 (.l 1) (.l 0)), q (.fa 1 (.l 0)), q (.ld none (.l 0)), q (.mv (.s 7)), q (.ia 6 (.l 1) (.l 0)), q (.ld (some 6) (.l 0)), w 8 (.al [.f (.lit (.int .i64 0)), .f (.lit (.int .i64 0)), .f (.lit (.int .i64 0)), .f (.lit (.int .i64 0)), .f (.sl []), .f (.lit (.int .u64 0))] []), e (.st 6 (.s 8) (.l 1))])
   (.seq (.reg [w 9 (.mv (i 22))])
   (.seq (.seq (.reg [q (.mv (.s 1)), w 16 (.bin .eql (.l 0) (i 1))])
   (.cond (.s 16) (.reg [w 9 (.mv (i 20))])
   .skip))
   (.seq (.seq (.reg [q (.mv (.s 1)), w 17 (.bin .eql (.l 0) (i 0))])
   (.cond (.s 17) (.reg [w 9 (.mv (i 17))])
   .skip))
   (.seq (.reg [q (.ld (some 6) (.s 8)), q (.call .cl (.c (.one (.fn F.lockstepref03_May [] []))) [(.l 0)]), q (.un .not (.l 0)), q (.mv (.l 0)), ⟨.loc, .fa 0 (.s 8), (some (.l 0, false))⟩, ⟨.loc, .ld none (.l 0), (some (.l 1, false))⟩, ⟨.loc, .mv (.s 9), (some (.l 2, false))⟩, ⟨.loc, .bin .gtr (.l 1) (.l 0), (some (.l 3, false))⟩, q (.pick (.l 4) (bo true) (.l 0)), q (.mv (.l 0)), ⟨.loc, .mv (.s 1), (some (.l 0, false))⟩, ⟨.loc, .bin .lss (.l 0) (i 2), (some (.l 1, false))⟩, ⟨.loc, .mv (.l 0), (some (.l 2, false))⟩, ⟨.loc, .fa 2 (.s 8), (some (.l 0, true))⟩, ⟨.loc, .ld none (.l 0), (some (.l 1, true))⟩, ⟨.loc, .bin .gtr (.l 0) (i 1), (some (.l 2, true))⟩, ⟨.loc, .pick (.l 3) (.l 0) (bo false), (some (.l 6, false))⟩, w 18 (.pick (.l 7) (bo true) (.l 0))])
   (.cond (.s 18) (.seq (.reg [w 3 (.mv (bo false))])
   (.ret [f,f,f,t,f,f,f,f,f,f,f,f,f,f,f,f,f,f,f]))
   .skip)))))))
   (.reg [q (.mv (.s 7)), q (.bin .add (.l 0) (i 1)), w 7 (.mv (.l 0))])))
def lockstepref11_typed_l2 : Go.A.Code := .loop [f,t,t,f,f,t,f,t,f,f,f,f,f,f,f,f,f,f,f] 1 lockstepref11_typed_b2
theorem lockstepref11_typed_l2_eq (T : Nat → Option Entry) (s : St) : exec T lockstepref11_typed_l2 s = (exec T lockstepref11_typed_b2 s).bind (loopK (exec T lockstepref11_typed_l2) [f,t,t,f,f,t,f,t,f,f,f,f,f,f,f,f,f,f,f] 1) := exec_loop T s _ _ _
def lockstepref11_typed_b3 : Go.A.Code :=
   (.seq (.seq (.reg [q (.mv (.s 5)), q (.fa 2 (.s 2)), q (.ld none (.l 0)), q (.len (.l 0)), w 12 (.bin .lss (.l 3) (.l 0))])
   (.cond (.s 12) .skip
   (.exit 2 [f,f,t,f,f,f,f,f,f,f,f,f,f,f,f,f,f,f,f] 1)))
   (.seq (.block 3 (.seq (.seq (.reg [w 6 (.mv (i 0))])
   (.block 4 lockstepref11_typed_l1))
   (.seq (.reg [w 7 (.mv (i 0))])
   (.block 6 lockstepref11_typed_l2))))
   (.reg [q (.mv (.s 5)), q (.bin .add (.l 0) (i 1)), w 5 (.mv (.l 0))])))
def lockstepref11_typed_l3 : Go.A.Code := .loop [f,t,t,f,f,t,f,f,f,f,f,f,f,f,f,f,f,f,f] 1 lockstepref11_typed_b3
theorem lockstepref11_typed_l3_eq (T : Nat → Option Entry) (s : St) : exec T lockstepref11_typed_l3 s = (exec T lockstepref11_typed_b3 s).bind (loopK (exec T lockstepref11_typed_l3) [f,t,t,f,f,t,f,f,f,f,f,f,f,f,f,f,f,f,f] 1) := exec_loop T s _ _ _
/-- lockstep/lockstepref11.typed -/
def a_lockstepref11_typed : Fun := { np := 2, nslots := 19, keep := 0, raw := false, results := [(3, none)], body :=
   (.seq (.reg [w 2 (.box 3 (.s 0)), w 3 (.mv (bo false))])
   (.seq (.seq (.reg [w 4 (.mv (i 0))])
   (.block 0 lockstepref11_typed_l0))
   (.seq (.seq (.reg [w 5 (.mv (i 0))])
   (.block 2 lockstepref11_typed_l3))
   (.seq (.reg [q (.fa 1 (.s 2)), q (.ld none (.l 0)), q (.call .cl (.c (.one (.fn F.lockstepref01_May [] []))) [(.l 0)]), w 3 (.mv (.l 0))])
   (.ret [f,f,f,t,f,f,f,f,f,f,f,f,f,f,f,f,f,f,f]))))) }
def k_lockstepref11_typed : List Go.Tmp := [0, 1, 2, 4, 5, 6, 7, 8, 9, 10, 15, 24, 29, 40, 54, 63, 76, 78, 96]
theorem c_lockstepref11_typed : chkFun Go.Proofs.Tryz.prog (drawsOf Go.Proofs.Tryz.prog) k_lockstepref11_typed Go.Proofs.Tryz.f52 a_lockstepref11_typed = true := by kernel_rfl

def lockstepref11_Defs_b0 : Go.A.Code :=
   (.seq (.seq (.reg [q (.mv (.s 4)), q (.fa 0 (.s 1)), q (.ld none (.l 0)), q (.len (.l 0)), w 11 (.bin .lss (.l 3) (.l 0))])
   (.cond (.s 11) .skip
   (.exit 0 [f,t,f,t,f,f,f,f,f,f,f,f,f,f,f,f] 2)))
   (.seq (.block 1 (.reg [q (.mv (.s 3)), q (.mv (.s 4)), q (.bin .add (.l 0) (i 1)), q (.fa 0 (.s 1)), q (.ld none (.l 0)), q (.mv (.s 4)), q (.ia 1 (.l 1) (.l 0)), q (.ld none (.l 0)), q (.bld [.f (.lit (.int .i64 0)), .f (.lit (.int .i64 0))] [(0, 1, (.l 0)), (1, 1, (i 1))] []), q (.bld [.f (.lit (.int .i64 0)), .f (.lit (.int .i64 0)), .f (.lit (.int .i64 0)), .f (.lit (.int .i64 0)), .f (.lit (.int .i64 0))] [(0, 1, (.l 6)), (1, 1, (i (-1))), (3, 2, (.l 0))] []), q (.bsl .fz 5 [[.f (.lit (.int .i64 0)), .f (.lit (.int .i64 0)), .f (.lit (.int .i64 0)), .f (.lit (.int .i64 0)), .f (.lit (.int .i64 0))]] [(0, (.l 0))]), q (.app 5 (.l 10) (.l 0)), w 3 (.mv (.l 0))]))
   (.reg [q (.mv (.s 4)), q (.bin .add (.l 0) (i 1)), w 4 (.mv (.l 0))])))
def lockstepref11_Defs_l0 : Go.A.Code := .loop [f,t,f,t,t,f,f,f,f,f,f,f,f,f,f,f] 2 lockstepref11_Defs_b0
theorem lockstepref11_Defs_l0_eq (T : Nat → Option Entry) (s : St) : exec T lockstepref11_Defs_l0 s = (exec T lockstepref11_Defs_b0 s).bind (loopK (exec T lockstepref11_Defs_l0) [f,t,f,t,t,f,f,f,f,f,f,f,f,f,f,f] 2) := exec_loop T s _ _ _
def lockstepref11_Defs_b1 : Go.A.Code :=
   (.seq (.seq (.reg [q (.mv (.s 7)), q (.fa 0 (.s 6)), q (.ld none (.l 0)), q (.len (.l 0)), w 13 (.bin .lss (.l 3) (.l 0))])
   (.cond (.s 13) .skip
   (.exit 4 [f,t,f,t,f,t,t,f,f,f,f,f,f,f,f,f] 3)))
   (.seq (.block 5 (.reg [q (.mv (.s 3)), q (.fa 0 (.s 6)), q (.ld none (.l 0)), q (.mv (.s 7)), q (.ia 4 (.l 1) (.l 0)), q (.fa 1 (.l 0)), q (.ld none (.l 0)), q (.mv (.s 5)), q (.fa 0 (.s 6)), q (.ld none (.l 0)), q (.mv (.s 7)), q (.ia 4 (.l 1) (.l 0)), q (.fa 0 (.l 0)), q (.ld none (.l 0)), q (.bld [.f (.lit (.int .i64 0)), .f (.lit (.int .i64 0))] [(0, 1, (.l 0)), (1, 1, (i 1))] []), q (.bld [.f (.lit (.int .i64 0)), .f (.lit (.int .i64 0)), .f (.lit (.int .i64 0)), .f (.lit (.int .i64 0)), .f (.lit (.int .i64 0))] [(0, 1, (.l 8)), (1, 1, (.l 7)), (2, 1, (i (-1))), (3, 2, (.l 0))] []), q (.bsl .fz 5 [[.f (.lit (.int .i64 0)), .f (.lit (.int .i64 0)), .f (.lit (.int .i64 0)), .f (.lit (.int .i64 0)), .f (.lit (.int .i64 0))]] [(0, (.l 0))]), q (.app 5 (.l 16) (.l 0)), w 3 (.mv (.l 0))]))
   (.reg [q (.mv (.s 7)), q (.bin .add (.l 0) (i 1)), w 7 (.mv (.l 0))])))
def lockstepref11_Defs_l1 : Go.A.Code := .loop [f,t,f,t,f,t,t,t,f,f,f,f,f,f,f,f] 3 lockstepref11_Defs_b1
theorem lockstepref11_Defs_l1_eq (T : Nat → Option Entry) (s : St) : exec T lockstepref11_Defs_l1 s = (exec T lockstepref11_Defs_b1 s).bind (loopK (exec T lockstepref11_Defs_l1) [f,t,f,t,f,t,t,t,f,f,f,f,f,f,f,f] 3) := exec_loop T s _ _ _
def lockstepref11_Defs_b2 : Go.A.Code :=
   (.seq (.seq (.reg [q (.mv (.s 8)), q (.fa 1 (.s 6)), q (.ld none (.l 0)), q (.len (.l 0)), w 14 (.bin .lss (.l 3) (.l 0))])
   (.cond (.s 14) .skip
   (.exit 6 [f,t,f,t,f,t,f,f,f,f,f,f,f,f,f,f] 3)))
   (.seq (.block 7 (.seq (.reg [q (.fa 1 (.s 6)), q (.ld none (.l 0)), q (.mv (.s 8)), q (.ia 6 (.l 1) (.l 0)), q (.ld (some 6) (.l 0)), q (.call .cl (.c (.one (.fn F.lockstepref03_Gives [] []))) [(.l 0)]), q (.mv (.l 0)), q (.ext (.l 0) 0), q (.ext (.l 1) 1), w 9 (.mv (.l 1)), w 10 (.mv (.l 1))])
   (.seq (.reg [q (.mv (.s 9)), w 15 (.bin .gtr (.l 0) (i 0))])
   (.cond (.s 15) (.reg [q (.mv (.s 3)), q (.fa 1 (.s 6)), q (.ld none (.l 0)), q (.mv (.s 8)), q (.ia 6 (.l 1) (.l 0)), q (.fa 3 (.l 0)), q (.ld none (.l 0)), q (.mv (.s 5)), q (.mv (.s 8)), q (.mv (.s 9)), q (.mv (.s 10)), q (.bld [.f (.lit (.int .i64 0)), .f (.lit (.int .i64 0))] [(0, 1, (.l 1)), (1, 1, (.l 0))] []), q (.bld [.f (.lit (.int .i64 0)), .f (.lit (.int .i64 0)), .f (.lit (.int .i64 0)), .f (.lit (.int .i64 0)), .f (.lit (.int .i64 0))] [(0, 1, (.l 5)), (1, 1, (.l 4)), (2, 1, (.l 3)), (3, 2, (.l 0))] []), q (.bsl .fz 5 [[.f (.lit (.int .i64 0)), .f (.lit (.int .i64 0)), .f (.lit (.int .i64 0)), .f (.lit (.int .i64 0)), .f (.lit (.int .i64 0))]] [(0, (.l 0))]), q (.app 5 (.l 13) (.l 0)), w 3 (.mv (.l 0))])
   .skip))))
   (.reg [q (.mv (.s 8)), q (.bin .add (.l 0) (i 1)), w 8 (.mv (.l 0))])))
def lockstepref11_Defs_l2 : Go.A.Code := .loop [f,t,f,t,f,t,t,f,t,f,f,f,f,f,f,f] 3 lockstepref11_Defs_b2
theorem lockstepref11_Defs_l2_eq (T : Nat → Option Entry) (s : St) : exec T lockstepref11_Defs_l2 s = (exec T lockstepref11_Defs_b2 s).bind (loopK (exec T lockstepref11_Defs_l2) [f,t,f,t,f,t,t,f,t,f,f,f,f,f,f,f] 3) := exec_loop T s _ _ _
def lockstepref11_Defs_b3 : Go.A.Code :=
   (.seq (.seq (.reg [q (.mv (.s 5)), q (.fa 2 (.s 1)), q (.ld none (.l 0)), q (.len (.l 0)), w 12 (.bin .lss (.l 3) (.l 0))])
   (.cond (.s 12) .skip
   (.exit 2 [f,f,f,t,f,f,f,f,f,f,f,f,f,f,f,f] 2)))
   (.seq (.block 3 (.seq (.reg [q (.fa 2 (.s 1)), q (.ld none (.l 0)), q (.mv (.s 5)), q (.ia 5 (.l 1) (.l 0)), q (.ld (some 5) (.l 0)), w 6 (.al [.f (.sl []), .f (.sl []), .f (.lit (.int .i64 0)), .f (.lit (.int .i64 0)), .f (.sl [])] []), e (.st 5 (.s 6) (.l 1))])
   (.seq (.seq (.reg [w 7 (.mv (i 0))])
   (.block 4 lockstepref11_Defs_l1))
   (.seq (.reg [w 8 (.mv (i 0))])
   (.block 6 lockstepref11_Defs_l2)))))
   (.reg [q (.mv (.s 5)), q (.bin .add (.l 0) (i 1)), w 5 (.mv (.l 0))])))
def lockstepref11_Defs_l3 : Go.A.Code := .loop [f,t,f,t,f,t,f,f,f,f,f,f,f,f,f,f] 2 lockstepref11_Defs_b3
theorem lockstepref11_Defs_l3_eq (T : Nat → Option Entry) (s : St) : exec T lockstepref11_Defs_l3 s = (exec T lockstepref11_Defs_b3 s).bind (loopK (exec T lockstepref11_Defs_l3) [f,t,f,t,f,t,f,f,f,f,f,f,f,f,f,f] 2) := exec_loop T s _ _ _
/-- lockstep/lockstepref11.Defs -/
def a_lockstepref11_Defs : Fun := { np := 1, nslots := 16, keep := 0, raw := false, results := [(2, none)], body :=
   (.seq (.reg [w 1 (.box 3 (.s 0)), w 2 (.mv (.c (.one (.f (.sl [])))))])
   (.seq (.reg [w 3 (.nl .tk 5)])
   (.seq (.seq (.reg [w 4 (.mv (i 0))])
   (.block 0 lockstepref11_Defs_l0))
   (.seq (.seq (.reg [w 5 (.mv (i 0))])
   (.block 2 lockstepref11_Defs_l3))
   (.seq (.reg [q (.mv (.s 3)), w 2 (.mv (.l 0))])
   (.ret [f,f,t,f,f,f,f,f,f,f,f,f,f,f,f,f])))))) }
def k_lockstepref11_Defs : List Go.Tmp := [0, 1, 2, 3, 4, 5, 6, 7, 8, 9, 10, 15, 34, 46, 71, 84]
theorem c_lockstepref11_Defs : chkFun Go.Proofs.Tryz.prog (drawsOf Go.Proofs.Tryz.prog) k_lockstepref11_Defs Go.Proofs.Tryz.f53 a_lockstepref11_Defs = true := by kernel_rfl

/-- lockstep/lockstepref03.Value -/
def a_lockstepref03_Value : Fun := { np := 1, nslots := 2, keep := 0, raw := false, results := [(1, none)], body :=
   (.seq (.reg [w 1 (.mv (bo false))])
   (.seq (.reg [q (.mv (.s 0)), q (.bin .gtr (.l 0) (i 0)), q (.mv (.l 0)), ⟨.loc, .mv (.s 0), (some (.l 0, true))⟩, ⟨.loc, .bin .lss (.l 0) (i 1024), (some (.l 1, true))⟩, q (.pick (.l 2) (.l 0) (bo false)), w 1 (.mv (.l 0))])
   (.ret [f,t]))) }
def k_lockstepref03_Value : List Go.Tmp := [0, 2]
theorem c_lockstepref03_Value : chkFun Go.Proofs.Tryz.prog (drawsOf Go.Proofs.Tryz.prog) k_lockstepref03_Value Go.Proofs.Tryz.f54 a_lockstepref03_Value = true := by kernel_rfl

end AC
