/- The machine's code of the functions that are reached, each with the kernel's check that it stands for the loaded one. Printed by a program. -/
import Derived.Test.YtecjccggbbbaaaaGreatLex
import Derived.Test.YtecjccggbbbaaaaGreatExt
import Derived.Test.YtecjccggbbbaaaaGreatClone
import Derived.Test.YtecjccggbbbaaaaGreatProg
import Derived.KernelRfl
set_option linter.unusedVariables false
set_option linter.unusedSimpArgs false
namespace AC
open Go.A Go.A.Lex
namespace F
abbrev locksteplaw13_EvalLanes : Nat := 6
abbrev locksteplaw13_awake : Nat := 18
abbrev mem_New : Nat := 19
abbrev eval_Run : Nat := 20
abbrev lockstepref11_Check : Nat := 22
abbrev lockstepref02_Ints : Nat := 32
abbrev bytes_Clone : Nat := 39
abbrev check_Check : Nat := 40
abbrev word_Cut : Nat := 41
abbrev eval_machine_run : Nat := 42
abbrev lockstepref01_May : Nat := 43
abbrev lockstepref01_Cut : Nat := 44
abbrev lockstepref04_May : Nat := 47
abbrev lockstepref11_shape : Nat := 48
abbrev lockstepref11_typed : Nat := 49
abbrev lockstepref11_Defs : Nat := 50
abbrev lockstepref03_Value : Nat := 51
abbrev lockstepref11_Find : Nat := 52
abbrev lockstepref11_Uses : Nat := 53
abbrev lockstepref06_Of : Nat := 54
abbrev lockstepref07_Tree : Nat := 55
abbrev lockstepref07_Meet : Nat := 56
abbrev kind_Shape : Nat := 63
abbrev slices_ContainsFunc_int : Nat := 65
abbrev slices_Clone_int : Nat := 68
abbrev check_look : Nat := 75
abbrev word_May : Nat := 76
abbrev eval_machine_all : Nat := 77
abbrev eval_machine_phis : Nat := 78
abbrev eval_machine_step : Nat := 79
abbrev eval_machine_next : Nat := 80
abbrev lockstepref04_list : Nat := 81
abbrev lockstepref04_num : Nat := 82
abbrev lockstepref04_Size : Nat := 83
abbrev lockstepref06_Reach : Nat := 84
abbrev lockstepref03_May : Nat := 85
abbrev lockstepref03_Gives : Nat := 86
abbrev lockstepref03_Takes : Nat := 87
abbrev lockstepref06_Has : Nat := 88
abbrev lockstepref06_Make : Nat := 89
abbrev lockstepref06_May : Nat := 90
abbrev lockstepref07_Right : Nat := 91
abbrev lockstepref07_Path : Nat := 92
abbrev slices_IndexFunc_int : Nat := 95
abbrev slices_Equal_int : Nat := 96
abbrev code_May : Nat := 106
abbrev check_checker_shape : Nat := 108
abbrev check_checker_typed : Nat := 109
abbrev check_checker_defined : Nat := 110
abbrev check_checker_shapes : Nat := 111
abbrev check_checker_places : Nat := 112
abbrev eval_machine_ways : Nat := 113
abbrev eval_machine_guarded : Nat := 114
abbrev lockstepref03_Shape : Nat := 115
abbrev lockstepref03_Args : Nat := 116
abbrev lockstepref03_Fits : Nat := 117
abbrev lockstepref06_Same : Nat := 118
abbrev code_Size : Nat := 124
abbrev code_in : Nat := 125
abbrev slices_ContainsFunc_Block : Nat := 126
abbrev code_May_1 : Nat := 127
abbrev code_mayBlock : Nat := 128
abbrev graph_Of : Nat := 130
abbrev dom_Tree : Nat := 131
abbrev dom_Over : Nat := 132
abbrev check_checker_typed_1 : Nat := 133
abbrev slices_ContainsFunc_Phi : Nat := 134
abbrev check_checker_typed_2 : Nat := 135
abbrev slices_ContainsFunc_Op : Nat := 136
abbrev check_checker_typed_3 : Nat := 137
abbrev check_checker_of : Nat := 138
abbrev check_checker_put : Nat := 139
abbrev check_scalar : Nat := 140
abbrev kind_Gives : Nat := 141
abbrev check_checker_uses : Nat := 142
abbrev check_checker_defined_1 : Nat := 143
abbrev check_checker_shapes_1 : Nat := 144
abbrev check_checker_places_1 : Nat := 145
abbrev eval_machine_constant : Nat := 146
abbrev eval_machine_choose : Nat := 147
abbrev eval_machine_width : Nat := 148
abbrev eval_machine_load : Nat := 149
abbrev eval_machine_store : Nat := 150
abbrev eval_machine_pack : Nat := 151
abbrev eval_machine_get : Nat := 152
abbrev eval_machine_two : Nat := 153
abbrev eval_machine_guarded_1 : Nat := 154
abbrev eval_machine_one : Nat := 155
abbrev code_in_1 : Nat := 158
abbrev slices_IndexFunc_Block : Nat := 159
abbrev code_lists : Nat := 160
abbrev graph_goes : Nat := 164
abbrev graph_Of_1 : Nat := 165
abbrev slices_Compact_int : Nat := 166
abbrev slices_Sorted_int : Nat := 167
abbrev slices_Values_int : Nat := 168
abbrev graph_Make : Nat := 169
abbrev graph_Order : Nat := 170
abbrev slices_Repeat_int : Nat := 171
abbrev dom_meet : Nat := 172
abbrev dom_in : Nat := 173
abbrev dom_Meet : Nat := 174
abbrev slices_IndexFunc_Phi : Nat := 175
abbrev slices_IndexFunc_Op : Nat := 176
abbrev kind_May : Nat := 177
abbrev kind_stores : Nat := 178
abbrev kind_Takes : Nat := 179
abbrev eval_same : Nat := 180
abbrev mem_Mem_Read : Nat := 181
abbrev mem_Mem_Write : Nat := 182
abbrev word_Do : Nat := 183
abbrev slices_Values_int_int__1 : Nat := 193
abbrev slices_ContainsFunc_sint : Nat := 194
abbrev graph_Make_1 : Nat := 195
abbrev graph_rising : Nat := 196
abbrev graph_preds : Nat := 197
abbrev graph_May : Nat := 198
abbrev slices_Reverse_int : Nat := 199
abbrev bits_Mul : Nat := 200
abbrev dom_right : Nat := 201
abbrev dom_in_1 : Nat := 202
abbrev dom_depth : Nat := 203
abbrev kind_takes : Nat := 204
abbrev kind_value : Nat := 205
abbrev kind_May_1 : Nat := 206
abbrev mem_may : Nat := 207
abbrev mem_Mem_There : Nat := 208
abbrev word_Two : Nat := 209
abbrev word_ways : Nat := 210
abbrev slices_IndexFunc_sint : Nat := 216
abbrev slices_EqualFunc_sint : Nat := 217
abbrev bits_Mul32 : Nat := 218
abbrev bits_Mul64 : Nat := 219
abbrev kind_row : Nat := 220
abbrev slices_Repeat_2int : Nat := 221
abbrev word_ways_1 : Nat := 222
abbrev word_ways_2 : Nat := 223
abbrev word_ways_3 : Nat := 224
abbrev word_ways_4 : Nat := 225
abbrev word_ways_5 : Nat := 226
abbrev word_ways_6 : Nat := 227
abbrev word_ways_7 : Nat := 228
abbrev word_ways_8 : Nat := 229
abbrev word_one : Nat := 230
abbrev word_ways_9 : Nat := 231
abbrev word_ways_10 : Nat := 232
abbrev word_ways_11 : Nat := 233
abbrev word_ways_12 : Nat := 234
abbrev word_Signed : Nat := 235
end F

/-- lockstep/locksteplaw13.EvalLanes -/
def a_locksteplaw13_EvalLanes : Fun := { np := 3, nslots := 21, keep := 0, raw := false, results := [(5, none)], body :=
   (.seq (.reg [w 3 (.bxf 2 (.s 1)), w 4 (.bxf 8 (.s 2)), w 5 (.mv (bo false))])
   (.seq (.seq (.reg [q (.call .cl (.c (.one (.fn F.locksteplaw13_awake [] []))) []), w 19 (.un .not (.l 0))])
   (.cond (.s 19) (.seq (.reg [w 5 (.mv (bo false))])
   (.ret [f,f,f,f,f,t,f,f,f,f,f,f,f,f,f,f,f,f,f,f,f]))
   .skip))
   (.seq (.reg [q (.iaa 2 1 (.s 3) (i 0)), q (.ld none (.l 0)), w 6 (.mv (.l 0))])
   (.seq (.reg [q (.iaa 2 1 (.s 3) (i 1)), q (.ld none (.l 0)), w 7 (.mv (.l 0))])
   (.seq (.reg [q (.bsl .fz 1 [[.f (.lit (.int .i64 0))], [.f (.lit (.int .i64 0))], [.f (.lit (.int .i64 0))], [.f (.lit (.int .i64 0))], [.f (.lit (.int .i64 0))], [.f (.lit (.int .i64 0))], [.f (.lit (.int .i64 0))], [.f (.lit (.int .i64 0))]] [(0, (i 1)), (1, (i 2)), (2, (i 3)), (3, (i 5)), (4, (i 6)), (5, (i 7)), (6, (i 8)), (7, (i 9))]), q (.mv (.s 0)), q (.conv .i64 (.l 0)), q (.bin .rem (.l 0) (i 8)), q (.ia 1 (.l 3) (.l 0)), q (.ld none (.l 0)), w 8 (.mv (.l 0))])
   (.seq (.reg [q (.bsl .fz 1 [[.f (.lit (.int .i64 0))], [.f (.lit (.int .i64 0))], [.f (.lit (.int .i64 0))]] [(0, (i 8)), (1, (i 16)), (2, (i 32))]), q (.mv (.s 6)), q (.conv .i64 (.l 0)), q (.bin .rem (.l 0) (i 3)), q (.ia 1 (.l 3) (.l 0)), q (.ld none (.l 0)), w 9 (.mv (.l 0))])
   (.seq (.reg [q (.mv (.s 9)), q (.mv (.s 9)), q (.mv (.s 9)), q (.mv (.s 9)), q (.mv (.s 9)), q (.mv (.s 9)), q (.mv (.s 9)), q (.mv (.s 9)), q (.bsl .fz 1 [[.f (.lit (.int .i64 0))], [.f (.lit (.int .i64 0))], [.f (.lit (.int .i64 0))], [.f (.lit (.int .i64 0))], [.f (.lit (.int .i64 0))], [.f (.lit (.int .i64 0))], [.f (.lit (.int .i64 0))], [.f (.lit (.int .i64 0))]] [(0, (.l 7)), (1, (.l 6)), (2, (.l 5)), (3, (.l 4)), (4, (.l 3)), (5, (.l 2)), (6, (.l 1)), (7, (.l 0))]), q (.mv (.s 9)), q (.bld [.f (.sl []), .f (.lit (.int .i64 0)), .f (.sl [])] [(0, 1, (.l 1)), (1, 1, (.l 0))] []), w 10 (.al [.f (.sl []), .f (.lit (.int .i64 0)), .f (.sl [])] []), e (.st 3 (.s 10) (.l 1))])
   (.seq (.reg [q (.mv (.s 7)), q (.conv .i64 (.l 0)), q (.bin .rem (.l 0) (i 4)), w 11 (.mv (.l 0))])
   (.seq (.reg [q (.mv (.s 9)), q (.bsl .fz 1 [[.f (.lit (.int .i64 0))], [.f (.lit (.int .i64 0))], [.f (.lit (.int .i64 0))], [.f (.lit (.int .i64 0))]] [(0, (i 1)), (1, (i 2)), (2, (i 3)), (3, (i 4))]), q (.bld [.f (.lit (.int .i64 0)), .f (.lit (.int .i64 0)), .f (.lit (.int .i64 0)), .f (.lit (.int .i64 0)), .f (.sl []), .f (.lit (.int .u64 0))] [(0, 1, (i 21)), (1, 1, (.l 1)), (2, 1, (i 4)), (3, 1, (i 9)), (4, 1, (.l 0))] []), q (.mv (.s 9)), q (.bsl .fz 1 [[.f (.lit (.int .i64 0))], [.f (.lit (.int .i64 0))], [.f (.lit (.int .i64 0))], [.f (.lit (.int .i64 0))]] [(0, (i 5)), (1, (i 6)), (2, (i 7)), (3, (i 8))]), q (.bld [.f (.lit (.int .i64 0)), .f (.lit (.int .i64 0)), .f (.lit (.int .i64 0)), .f (.lit (.int .i64 0)), .f (.sl []), .f (.lit (.int .u64 0))] [(0, 1, (i 21)), (1, 1, (.l 1)), (2, 1, (i 4)), (3, 1, (i 10)), (4, 1, (.l 0))] []), q (.mv (.s 8)), q (.mv (.s 9)), q (.bsl .fz 1 [[.f (.lit (.int .i64 0))], [.f (.lit (.int .i64 0))]] [(0, (i 9)), (1, (i 10))]), q (.bld [.f (.lit (.int .i64 0)), .f (.lit (.int .i64 0)), .f (.lit (.int .i64 0)), .f (.lit (.int .i64 0)), .f (.sl []), .f (.lit (.int .u64 0))] [(0, 1, (.l 2)), (1, 1, (.l 1)), (2, 1, (i 4)), (3, 1, (i 11)), (4, 1, (.l 0))] []), q (.mv (.s 9)), q (.bsl .fz 1 [[.f (.lit (.int .i64 0))]] [(0, (i 11))]), q (.mv (.s 11)), q (.conv .u64 (.l 0)), q (.bld [.f (.lit (.int .i64 0)), .f (.lit (.int .i64 0)), .f (.lit (.int .i64 0)), .f (.lit (.int .i64 0)), .f (.sl []), .f (.lit (.int .u64 0))] [(0, 1, (i 22)), (1, 1, (.l 3)), (2, 1, (i 4)), (3, 1, (i 12)), (4, 1, (.l 2)), (5, 1, (.l 0))] []), q (.bsl .fz 6 [[.f (.lit (.int .i64 0)), .f (.lit (.int .i64 0)), .f (.lit (.int .i64 0)), .f (.lit (.int .i64 0)), .f (.sl []), .f (.lit (.int .u64 0))], [.f (.lit (.int .i64 0)), .f (.lit (.int .i64 0)), .f (.lit (.int .i64 0)), .f (.lit (.int .i64 0)), .f (.sl []), .f (.lit (.int .u64 0))], [.f (.lit (.int .i64 0)), .f (.lit (.int .i64 0)), .f (.lit (.int .i64 0)), .f (.lit (.int .i64 0)), .f (.sl []), .f (.lit (.int .u64 0))], [.f (.lit (.int .i64 0)), .f (.lit (.int .i64 0)), .f (.lit (.int .i64 0)), .f (.lit (.int .i64 0)), .f (.sl []), .f (.lit (.int .u64 0))]] [(0, (.l 12)), (1, (.l 9)), (2, (.l 5)), (3, (.l 0))]), w 12 (.mv (.l 0))])
   (.seq (.reg [q (.mv (.s 12)), q (.bld [.f (.lit (.int .i64 0)), .f (.lit (.int .i64 0)), .f (.sl [])] [(0, 1, (i 0)), (1, 1, (i 12))] []), q (.bld [.f (.sl []), .f (.sl []), .f (.lit (.int .i64 0)), .f (.lit (.int .i64 0)), .f (.sl [])] [(1, 1, (.l 1)), (2, 3, (.l 0))] []), q (.bsl .fz 5 [[.f (.sl []), .f (.sl []), .f (.lit (.int .i64 0)), .f (.lit (.int .i64 0)), .f (.sl [])]] [(0, (.l 0))]), q (.fa 2 (.s 10)), e (.st 1 (.l 0) (.l 1))])
   (.seq (.reg [q (.ld (some 3) (.s 10)), w 13 (.al [.f (.sl []), .f (.lit (.int .i64 0)), .f (.sl [])] []), e (.st 3 (.s 13) (.l 1))])
   (.seq (.reg [q (.mv (.s 8)), q (.mv (.s 9)), q (.mv (.s 11)), q (.bin .add (i 1) (.l 0)), q (.mv (.s 11)), q (.bin .add (i 5) (.l 0)), q (.bsl .fz 1 [[.f (.lit (.int .i64 0))], [.f (.lit (.int .i64 0))]] [(0, (.l 2)), (1, (.l 0))]), q (.bld [.f (.lit (.int .i64 0)), .f (.lit (.int .i64 0)), .f (.lit (.int .i64 0)), .f (.lit (.int .i64 0)), .f (.sl []), .f (.lit (.int .u64 0))] [(0, 1, (.l 6)), (1, 1, (.l 5)), (2, 1, (i 1)), (3, 1, (i 9)), (4, 1, (.l 0))] []), q (.bsl .fz 6 [[.f (.lit (.int .i64 0)), .f (.lit (.int .i64 0)), .f (.lit (.int .i64 0)), .f (.lit (.int .i64 0)), .f (.sl []), .f (.lit (.int .u64 0))]] [(0, (.l 0))]), q (.bld [.f (.lit (.int .i64 0)), .f (.lit (.int .i64 0)), .f (.sl [])] [(0, 1, (i 0)), (1, 1, (i 9))] []), q (.bld [.f (.sl []), .f (.sl []), .f (.lit (.int .i64 0)), .f (.lit (.int .i64 0)), .f (.sl [])] [(1, 1, (.l 1)), (2, 3, (.l 0))] []), q (.bsl .fz 5 [[.f (.sl []), .f (.sl []), .f (.lit (.int .i64 0)), .f (.lit (.int .i64 0)), .f (.sl [])]] [(0, (.l 0))]), q (.fa 2 (.s 13)), e (.st 1 (.l 0) (.l 1))])
   (.seq (.reg [q (.call .ck (.c (.one (.fn F.mem_New [] []))) [(.c (.one (.f (.sl []))))]), q (.mv (.l 0)), q (.ext (.l 0) 0), q (.ext (.l 1) 1), w 14 (.mv (.l 1)), q (.mv (.l 1))])
   (.seq (.seq (.reg [q (.mv (.s 14)), q (.pnil false (.l 0)), q (.mv (.l 0)), ⟨.loc, .ld (some 3) (.s 10), (some (.l 0, false))⟩, ⟨.loc, .call .cl (.c (.one (.fn F.lockstepref11_Check [] []))) [(.l 0), (i 2)], (some (.l 1, false))⟩, ⟨.loc, .bin .neq (.l 0) (i 0), (some (.l 2, false))⟩, w 20 (.pick (.l 3) (bo true) (.l 0))])
   (.cond (.s 20) (.seq (.reg [w 5 (.mv (bo false))])
   (.ret [f,f,f,f,f,t,f,f,f,f,f,f,f,f,f,f,f,f,f,f,f]))
   .skip))
   (.seq (.regd [] [q (.ld (some 3) (.s 10)), q (.sla 8 0 (.s 4)), q (.mv (.s 14)), q (.call .op (.c (.one (.fn F.eval_Run [] []))) [(.l 2), (.l 1), (.l 0), (i 9)]), q (.mv (.l 0)), q (.ext (.l 0) 0), q (.ext (.l 1) 1), w 15 (.al [.f (.lit (.int .i64 0)), .f (.lit (.int .u64 0)), .f (.lit (.int .i64 0))] []), e (.st 3 (.s 15) (.l 2)), w 16 (.mv (.l 2))])
   (.seq (.regd [] [q (.ld (some 3) (.s 13)), q (.sla 8 0 (.s 4)), q (.mv (.s 14)), q (.call .op (.c (.one (.fn F.eval_Run [] []))) [(.l 2), (.l 1), (.l 0), (i 9)]), q (.mv (.l 0)), q (.ext (.l 0) 0), q (.ext (.l 1) 1), w 17 (.al [.f (.lit (.int .i64 0)), .f (.lit (.int .u64 0)), .f (.lit (.int .i64 0))] []), e (.st 3 (.s 17) (.l 2)), w 18 (.mv (.l 2))])
   (.seq (.reg [q (.mv (.s 16)), q (.bin .eql (.l 0) (i 0)), q (.mv (.l 0)), ⟨.loc, .mv (.s 18), (some (.l 0, true))⟩, ⟨.loc, .bin .eql (.l 0) (i 0), (some (.l 1, true))⟩, q (.pick (.l 2) (.l 0) (bo false)), q (.mv (.l 0)), ⟨.loc, .fa 0 (.s 15), (some (.l 0, true))⟩, ⟨.loc, .ld none (.l 0), (some (.l 1, true))⟩, ⟨.loc, .bin .eql (.l 0) (i 0), (some (.l 2, true))⟩, q (.pick (.l 3) (.l 0) (bo false)), q (.mv (.l 0)), ⟨.loc, .fa 0 (.s 17), (some (.l 0, true))⟩, ⟨.loc, .ld none (.l 0), (some (.l 1, true))⟩, ⟨.loc, .bin .eql (.l 0) (i 0), (some (.l 2, true))⟩, q (.pick (.l 3) (.l 0) (bo false)), q (.mv (.l 0)), ⟨.loc, .fa 1 (.s 15), (some (.l 0, true))⟩, ⟨.loc, .ld none (.l 0), (some (.l 1, true))⟩, ⟨.loc, .fa 1 (.s 17), (some (.l 2, true))⟩, ⟨.loc, .ld none (.l 0), (some (.l 3, true))⟩, ⟨.loc, .bin .eql (.l 2) (.l 0), (some (.l 4, true))⟩, q (.pick (.l 5) (.l 0) (bo false)), q (.mv (.l 0)), ⟨.loc, .fa 2 (.s 15), (some (.l 0, true))⟩, ⟨.loc, .ld none (.l 0), (some (.l 1, true))⟩, ⟨.loc, .bin .eql (.l 0) (i 5), (some (.l 2, true))⟩, q (.pick (.l 3) (.l 0) (bo false)), w 5 (.mv (.l 0))])
   (.ret [f,f,f,f,f,t,f,f,f,f,f,f,f,f,f,f,f,f,f,f,f])))))))))))))))))) }
def k_locksteplaw13_EvalLanes : List Go.Tmp := [0, 1, 2, 4, 5, 6, 7, 8, 9, 10, 11, 12, 13, 14, 15, 17, 18, 19, 20, 22, 98]
theorem c_locksteplaw13_EvalLanes : chkFun Go.Proofs.Tryz.prog (drawsOf Go.Proofs.Tryz.prog) k_locksteplaw13_EvalLanes Go.Proofs.Tryz.f6 a_locksteplaw13_EvalLanes = true := by kernel_rfl

/-- lockstep/locksteplaw13.awake -/
def a_locksteplaw13_awake : Fun := { np := 0, nslots := 10, keep := 0, raw := false, results := [(0, none)], body :=
   (.seq (.reg [w 0 (.mv (bo false))])
   (.seq (.reg [q (.bld [.f (.lit (.int .i64 0)), .f (.lit (.int .i64 0)), .f (.lit (.int .i64 0)), .f (.lit (.int .i64 0)), .f (.sl []), .f (.lit (.int .u64 0))] [(0, 1, (i 0)), (1, 1, (i 8)), (2, 1, (i 1)), (3, 1, (i 1)), (5, 1, (ik .u64 200))] []), q (.bld [.f (.lit (.int .i64 0)), .f (.lit (.int .i64 0)), .f (.lit (.int .i64 0)), .f (.lit (.int .i64 0)), .f (.sl []), .f (.lit (.int .u64 0))] [(0, 1, (i 0)), (1, 1, (i 8)), (2, 1, (i 1)), (3, 1, (i 2)), (5, 1, (ik .u64 100))] []), q (.bsl .fz 1 [[.f (.lit (.int .i64 0))], [.f (.lit (.int .i64 0))]] [(0, (i 1)), (1, (i 2))]), q (.bld [.f (.lit (.int .i64 0)), .f (.lit (.int .i64 0)), .f (.lit (.int .i64 0)), .f (.lit (.int .i64 0)), .f (.sl []), .f (.lit (.int .u64 0))] [(0, 1, (i 1)), (1, 1, (i 8)), (2, 1, (i 1)), (3, 1, (i 3)), (4, 1, (.l 0))] []), q (.bsl .fz 6 [[.f (.lit (.int .i64 0)), .f (.lit (.int .i64 0)), .f (.lit (.int .i64 0)), .f (.lit (.int .i64 0)), .f (.sl []), .f (.lit (.int .u64 0))], [.f (.lit (.int .i64 0)), .f (.lit (.int .i64 0)), .f (.lit (.int .i64 0)), .f (.lit (.int .i64 0)), .f (.sl []), .f (.lit (.int .u64 0))], [.f (.lit (.int .i64 0)), .f (.lit (.int .i64 0)), .f (.lit (.int .i64 0)), .f (.lit (.int .i64 0)), .f (.sl []), .f (.lit (.int .u64 0))]] [(0, (.l 3)), (1, (.l 2)), (2, (.l 0))]), q (.bld [.f (.lit (.int .i64 0)), .f (.lit (.int .i64 0)), .f (.sl [])] [(0, 1, (i 0)), (1, 1, (i 3))] []), q (.bld [.f (.sl []), .f (.sl []), .f (.lit (.int .i64 0)), .f (.lit (.int .i64 0)), .f (.sl [])] [(1, 1, (.l 1)), (2, 3, (.l 0))] []), q (.bsl .fz 5 [[.f (.sl []), .f (.sl []), .f (.lit (.int .i64 0)), .f (.lit (.int .i64 0)), .f (.sl [])]] [(0, (.l 0))]), q (.bld [.f (.sl []), .f (.lit (.int .i64 0)), .f (.sl [])] [(1, 1, (i 8)), (2, 1, (.l 0))] []), w 1 (.al [.f (.sl []), .f (.lit (.int .i64 0)), .f (.sl [])] []), e (.st 3 (.s 1) (.l 1))])
   (.seq (.reg [q (.call .ck (.c (.one (.fn F.mem_New [] []))) [(.c (.one (.f (.sl []))))]), q (.mv (.l 0)), q (.ext (.l 0) 0), q (.ext (.l 1) 1), w 2 (.mv (.l 1)), w 3 (.mv (.l 1))])
   (.seq (.seq (.reg [q (.mv (.s 2)), q (.pnil false (.l 0)), q (.mv (.l 0)), ⟨.loc, .mv (.s 3), (some (.l 0, false))⟩, ⟨.loc, .bin .neq (.l 0) (i 0), (some (.l 1, false))⟩, w 9 (.pick (.l 2) (bo true) (.l 0))])
   (.cond (.s 9) (.seq (.reg [w 0 (.mv (bo false))])
   (.ret [t,f,f,f,f,f,f,f,f,f]))
   .skip))
   (.seq (.reg [q (.ld (some 3) (.s 1)), q (.mv (.s 2)), q (.call .op (.c (.one (.fn F.eval_Run [] []))) [(.l 1), (.c (.one (.f (.sl [])))), (.l 0), (i 4)]), q (.mv (.l 0)), q (.ext (.l 0) 0), q (.ext (.l 1) 1), w 4 (.al [.f (.lit (.int .i64 0)), .f (.lit (.int .u64 0)), .f (.lit (.int .i64 0))] []), e (.st 3 (.s 4) (.l 2)), w 5 (.mv (.l 2))])
   (.seq (.reg [q (.ld (some 3) (.s 1)), q (.mv (.s 2)), q (.call .op (.c (.one (.fn F.eval_Run [] []))) [(.l 1), (.c (.one (.f (.sl [])))), (.l 0), (i 3)]), q (.mv (.l 0)), q (.ext (.l 0) 0), q (.ext (.l 1) 1), w 6 (.al [.f (.lit (.int .i64 0)), .f (.lit (.int .u64 0)), .f (.lit (.int .i64 0))] []), e (.st 3 (.s 6) (.l 2)), w 7 (.mv (.l 2))])
   (.seq (.reg [q (.ld (some 3) (.s 1)), q (.bsl .fz 1 [[.f (.lit (.int .u64 0))]] [(0, (ik .u64 1))]), q (.mv (.s 2)), q (.call .op (.c (.one (.fn F.eval_Run [] []))) [(.l 2), (.l 1), (.l 0), (i 3)]), q (.mv (.l 0)), q (.ext (.l 0) 0), q (.ext (.l 1) 1), q (.al [.f (.lit (.int .i64 0)), .f (.lit (.int .u64 0)), .f (.lit (.int .i64 0))] []), e (.st 3 (.l 0) (.l 2)), w 8 (.mv (.l 2))])
   (.seq (.reg [q (.mv (.s 5)), q (.bin .eql (.l 0) (i 0)), q (.mv (.l 0)), ⟨.loc, .ld (some 3) (.s 4), (some (.l 0, true))⟩, ⟨.loc, .bld [.f (.lit (.int .i64 0)), .f (.lit (.int .u64 0)), .f (.lit (.int .i64 0))] [(0, 1, (i 0)), (1, 1, (ik .u64 44)), (2, 1, (i 4))] [], (some (.l 1, true))⟩, ⟨.loc, .eqa 3 false (.l 1) (.l 0), (some (.l 2, true))⟩, q (.pick (.l 3) (.l 0) (bo false)), q (.mv (.l 0)), ⟨.loc, .mv (.s 7), (some (.l 0, true))⟩, ⟨.loc, .bin .eql (.l 0) (i 0), (some (.l 1, true))⟩, q (.pick (.l 2) (.l 0) (bo false)), q (.mv (.l 0)), ⟨.loc, .ld (some 3) (.s 6), (some (.l 0, true))⟩, ⟨.loc, .bld [.f (.lit (.int .i64 0)), .f (.lit (.int .u64 0)), .f (.lit (.int .i64 0))] [(0, 1, (i 9)), (2, 1, (i 3))] [], (some (.l 1, true))⟩, ⟨.loc, .eqa 3 false (.l 1) (.l 0), (some (.l 2, true))⟩, q (.pick (.l 3) (.l 0) (bo false)), q (.mv (.l 0)), ⟨.loc, .mv (.s 8), (some (.l 0, true))⟩, ⟨.loc, .bin .eql (.l 0) (i 1), (some (.l 1, true))⟩, q (.pick (.l 2) (.l 0) (bo false)), w 0 (.mv (.l 0))])
   (.ret [t,f,f,f,f,f,f,f,f,f]))))))))) }
def k_locksteplaw13_awake : List Go.Tmp := [0, 1, 2, 3, 4, 5, 6, 7, 9, 28]
theorem c_locksteplaw13_awake : chkFun Go.Proofs.Tryz.prog (drawsOf Go.Proofs.Tryz.prog) k_locksteplaw13_awake Go.Proofs.Tryz.f18 a_locksteplaw13_awake = true := by kernel_rfl

/-- lockstep/mem.New -/
def a_mem_New : Fun := { np := 1, nslots := 4, keep := 4, raw := false, results := [(1, none), (2, none)], body :=
   (.seq (.reg [w 1 (.mv (.c (.one (.f (.lit (.pointer none)))))), w 2 (.mv (i 0))])
   (.seq (.seq (.reg [q (.mv (.s 0)), q (.len (.l 0)), w 3 (.bin .gtr (.l 0) (i 4096))])
   (.cond (.s 3) (.seq (.reg [w 1 (.mv (.c (.one (.f (.lit (.pointer none)))))), w 2 (.mv (i 4))])
   (.ret [f,t,t,f]))
   .skip))
   (.seq (.reg [q (.mv (.s 0)), q (.call .ck (.c (.one (.fn F.bytes_Clone [] []))) [(.l 0)]), q (.bld [.f (.sl []), .f (.sl [])] [(0, 1, (.l 0))] [(0, 1), (1, 3)]), q (.box 2 (.l 0)), w 1 (.mv (.l 0)), w 2 (.mv (i 0))])
   (.ret [f,t,t,f])))) }
def k_mem_New : List Go.Tmp := [0, 2, 3, 6]
theorem c_mem_New : chkFun Go.Proofs.Tryz.prog (drawsOf Go.Proofs.Tryz.prog) k_mem_New Go.Proofs.Tryz.f19 a_mem_New = true := by kernel_rfl

def eval_Run_b0 : Go.A.Code :=
   (.seq (.reg [w 16 (.bin .lss (.s 15) (.s 14))])
   (.seq (.cond (.s 16) .skip
   (.exit 0 [f,f,f,f,f,t,f,t,f,f,f,f,f,f,f,f,f] 4))
   (.seq (.block 1 (.seq (.reg [q (.mv (.s 15)), q (.ia 1 (.s 13) (.s 15)), q (.ld none (.l 0)), w 8 (.mv (.l 2)), w 9 (.mv (.l 1))])
   (.reg [q (.mv (.s 7)), q (.nil (.l 0)), q (.fa 4 (.l 0)), q (.ld none (.l 0)), q (.mv (.s 8)), q (.bin .add (.l 0) (i 1)), q (.mv (.s 9)), q (.fa 0 (.s 4)), q (.ld none (.l 0)), q (.mv (.s 8)), q (.ia 1 (.l 1) (.l 0)), q (.ld none (.l 0)), q (.call .cl (.c (.one (.fn F.word_Cut [] []))) [(.l 5), (.l 0)]), q (.bsl .fz 1 [[.f (.lit (.int .u64 0))]] [(0, (.l 0))]), e (.mu (.l 10) (.l 8) (.l 0))])))
   (.reg [q (.bin .add (.s 15) (i 1)), w 15 (.mv (.l 0))]))))
def eval_Run_l0 : Go.A.Code := .loop [f,f,f,f,t,t,f,t,f,f,f,f,f,t,t,t,f] 4 eval_Run_b0
theorem eval_Run_l0_eq (T : Nat → Option Entry) (s : St) : exec T eval_Run_l0 s = (exec T eval_Run_b0 s).bind (loopK (exec T eval_Run_l0) [f,f,f,f,t,t,f,t,f,f,f,f,f,t,t,t,f] 4) := exec_loop T s _ _ _
/-- lockstep/eval.Run -/
def a_eval_Run : Fun := { np := 4, nslots := 17, keep := 0, raw := false, results := [(5, some (some 3)), (6, none)], body :=
   (.seq (.reg [w 4 (.box 3 (.s 0)), w 5 (.al [.f (.lit (.int .i64 0)), .f (.lit (.int .u64 0)), .f (.lit (.int .i64 0))] []), w 6 (.mv (i 0))])
   (.seq (.seq (.reg [q (.mv (.s 3)), q (.bin .lss (.l 0) (i 0)), q (.mv (.l 0)), ⟨.loc, .mv (.s 1), (some (.l 0, false))⟩, ⟨.loc, .len (.l 0), (some (.l 1, false))⟩, ⟨.loc, .fa 0 (.s 4), (some (.l 2, false))⟩, ⟨.loc, .ld none (.l 0), (some (.l 3, false))⟩, ⟨.loc, .len (.l 0), (some (.l 4, false))⟩, ⟨.loc, .bin .neq (.l 3) (.l 0), (some (.l 5, false))⟩, q (.pick (.l 6) (bo true) (.l 0)), q (.mv (.l 0)), ⟨.loc, .ld (some 3) (.s 4), (some (.l 0, false))⟩, ⟨.loc, .call .cl (.c (.one (.fn F.check_Check [] []))) [(.l 0), (i 2)], (some (.l 1, false))⟩, ⟨.loc, .bin .neq (.l 0) (i 0), (some (.l 2, false))⟩, w 12 (.pick (.l 3) (bo true) (.l 0))])
   (.cond (.s 12) (.seq (.reg [q (.bld [.f (.lit (.int .i64 0)), .f (.lit (.int .u64 0)), .f (.lit (.int .i64 0))] [] []), e (.st 3 (.s 5) (.l 0)), w 6 (.mv (i 1))])
   (.ret [f,f,f,f,f,t,t,f,f,f,f,f,f,f,f,f,f]))
   .skip))
   (.seq (.reg [q (.mv (.s 2)), q (.ld (some 3) (.s 4)), q (.mkm), q (.mv (.s 3)), q (.bld [.f (.lit (.pointer none)), .f (.sl []), .f (.lit (.int .i64 0)), .f (.sl []), .f (.lit (.map none)), .f (.lit (.int .i64 0)), .f (.lit (.int .i64 0))] [(0, 1, (.l 3)), (1, 3, (.l 2)), (4, 1, (.l 1)), (5, 1, (.l 0))] []), q (.box 7 (.l 0)), w 7 (.mv (.l 0))])
   (.seq (.seq (.reg [w 13 (.mv (.s 1)), w 14 (.len (.s 13)), w 15 (.mv (i 0))])
   (.block 0 eval_Run_l0))
   (.seq (.reg [q (.mv (.s 7)), q (.call .op (.c (.one (.fn F.eval_machine_run [] []))) [(.l 0)]), q (.mv (.l 0)), q (.ext (.l 0) 0), q (.ext (.l 1) 1), w 10 (.mv (.l 1)), w 11 (.mv (.l 1))])
   (.seq (.reg [q (.mv (.s 10)), q (.mv (.s 11)), q (.mv (.s 7)), q (.nil (.l 0)), q (.fa 6 (.l 0)), q (.ld none (.l 0)), q (.bld [.f (.lit (.int .i64 0)), .f (.lit (.int .u64 0)), .f (.lit (.int .i64 0))] [(0, 1, (.l 5)), (1, 1, (.l 4)), (2, 1, (.l 0))] []), e (.st 3 (.s 5) (.l 0)), w 6 (.mv (i 0))])
   (.ret [f,f,f,f,f,t,t,f,f,f,f,f,f,f,f,f,f]))))))) }
def k_eval_Run : List Go.Tmp := [0, 1, 2, 3, 4, 8, 9, 10, 11, 12, 13, 14, 29, 37, 38, 39, 40]
theorem c_eval_Run : chkFun Go.Proofs.Tryz.prog (drawsOf Go.Proofs.Tryz.prog) k_eval_Run Go.Proofs.Tryz.f20 a_eval_Run = true := by kernel_rfl

def lockstepref11_Check_b0 : Go.A.Code :=
   (.seq (.seq (.reg [q (.mv (.s 5)), q (.mv (.s 4)), q (.len (.l 0)), w 18 (.bin .lss (.l 2) (.l 0))])
   (.cond (.s 18) .skip
   (.exit 0 [f,f,t,f,t,f,f,f,f,f,f,f,f,f,f,f,f,f,f,f,f,f,f,f,f,f,f] 1)))
   (.seq (.block 1 (.seq (.reg [q (.mv (.s 4)), q (.mv (.s 5)), q (.ia 5 (.l 1) (.l 0)), q (.fa 0 (.l 0)), q (.ld none (.l 0)), q (.call .cl (.c (.one (.fn F.lockstepref03_Value [] []))) [(.l 0)]), q (.un .not (.l 0)), q (.mv (.l 0)), ⟨.loc, .mv (.s 4), (some (.l 0, false))⟩, ⟨.loc, .mv (.s 4), (some (.l 1, false))⟩, ⟨.loc, .mv (.s 5), (some (.l 2, false))⟩, ⟨.loc, .ia 5 (.l 1) (.l 0), (some (.l 3, false))⟩, ⟨.loc, .fa 0 (.l 0), (some (.l 4, false))⟩, ⟨.loc, .ld none (.l 0), (some (.l 5, false))⟩, ⟨.loc, .call .cl (.c (.one (.fn F.lockstepref11_Find [] []))) [(.l 5), (.l 0)], (some (.l 6, false))⟩, ⟨.loc, .mv (.s 5), (some (.l 7, false))⟩, ⟨.loc, .bin .neq (.l 1) (.l 0), (some (.l 8, false))⟩, w 19 (.pick (.l 9) (bo true) (.l 0))])
   (.cond (.s 19) (.seq (.reg [w 3 (.mv (i 7))])
   (.ret [f,f,f,t,f,f,f,f,f,f,f,f,f,f,f,f,f,f,f,f,f,f,f,f,f,f,f]))
   .skip)))
   (.reg [q (.mv (.s 5)), q (.bin .add (.l 0) (i 1)), w 5 (.mv (.l 0))])))
def lockstepref11_Check_l0 : Go.A.Code := .loop [f,f,t,f,t,t,f,f,f,f,f,f,f,f,f,f,f,f,f,f,f,f,f,f,f,f,f] 1 lockstepref11_Check_b0
theorem lockstepref11_Check_l0_eq (T : Nat → Option Entry) (s : St) : exec T lockstepref11_Check_l0 s = (exec T lockstepref11_Check_b0 s).bind (loopK (exec T lockstepref11_Check_l0) [f,f,t,f,t,t,f,f,f,f,f,f,f,f,f,f,f,f,f,f,f,f,f,f,f,f,f] 1) := exec_loop T s _ _ _
def lockstepref11_Check_b1 : Go.A.Code :=
   (.seq (.seq (.reg [q (.mv (.s 7)), q (.mv (.s 6)), q (.len (.l 0)), w 20 (.bin .lss (.l 2) (.l 0))])
   (.cond (.s 20) .skip
   (.exit 2 [f,f,t,f,t,f,t,f,f,f,f,f,f,f,f,f,f,f,f,f,f,f,f,f,f,f,f] 1)))
   (.seq (.block 3 (.seq (.reg [q (.mv (.s 4)), q (.mv (.s 6)), q (.mv (.s 7)), q (.ia 5 (.l 1) (.l 0)), q (.fa 0 (.l 0)), q (.ld none (.l 0)), q (.call .cl (.c (.one (.fn F.lockstepref11_Find [] []))) [(.l 5), (.l 0)]), w 21 (.bin .lss (.l 0) (i 0))])
   (.cond (.s 21) (.seq (.reg [w 3 (.mv (i 7))])
   (.ret [f,f,f,t,f,f,f,f,f,f,f,f,f,f,f,f,f,f,f,f,f,f,f,f,f,f,f]))
   .skip)))
   (.reg [q (.mv (.s 7)), q (.bin .add (.l 0) (i 1)), w 7 (.mv (.l 0))])))
def lockstepref11_Check_l1 : Go.A.Code := .loop [f,f,t,f,t,f,t,t,f,f,f,f,f,f,f,f,f,f,f,f,f,f,f,f,f,f,f] 1 lockstepref11_Check_b1
theorem lockstepref11_Check_l1_eq (T : Nat → Option Entry) (s : St) : exec T lockstepref11_Check_l1 s = (exec T lockstepref11_Check_b1 s).bind (loopK (exec T lockstepref11_Check_l1) [f,f,t,f,t,f,t,t,f,f,f,f,f,f,f,f,f,f,f,f,f,f,f,f,f,f,f] 1) := exec_loop T s _ _ _
def lockstepref11_Check_b2 : Go.A.Code :=
   (.seq (.seq (.reg [q (.mv (.s 8)), q (.mv (.s 6)), q (.len (.l 0)), w 22 (.bin .lss (.l 2) (.l 0))])
   (.cond (.s 22) .skip
   (.exit 4 [f,f,t,f,t,f,t,f,f,f,f,f,f,f,f,f,f,f,f,f,f,f,f,f,f,f,f] 1)))
   (.seq (.block 5 (.seq (.reg [q (.mv (.s 4)), q (.mv (.s 4)), q (.mv (.s 6)), q (.mv (.s 8)), q (.ia 5 (.l 1) (.l 0)), q (.fa 0 (.l 0)), q (.ld none (.l 0)), q (.call .cl (.c (.one (.fn F.lockstepref11_Find [] []))) [(.l 5), (.l 0)]), q (.ia 5 (.l 7) (.l 0)), q (.fa 3 (.l 0)), q (.ld (some 2) (.l 0)), q (.mv (.s 6)), q (.mv (.s 8)), q (.ia 5 (.l 1) (.l 0)), q (.fa 3 (.l 0)), q (.ld (some 2) (.l 0)), w 23 (.eqa 2 true (.l 5) (.l 0))])
   (.cond (.s 23) (.seq (.reg [w 3 (.mv (i 6))])
   (.ret [f,f,f,t,f,f,f,f,f,f,f,f,f,f,f,f,f,f,f,f,f,f,f,f,f,f,f]))
   .skip)))
   (.reg [q (.mv (.s 8)), q (.bin .add (.l 0) (i 1)), w 8 (.mv (.l 0))])))
def lockstepref11_Check_l2 : Go.A.Code := .loop [f,f,t,f,t,f,t,f,t,f,f,f,f,f,f,f,f,f,f,f,f,f,f,f,f,f,f] 1 lockstepref11_Check_b2
theorem lockstepref11_Check_l2_eq (T : Nat → Option Entry) (s : St) : exec T lockstepref11_Check_l2 s = (exec T lockstepref11_Check_b2 s).bind (loopK (exec T lockstepref11_Check_l2) [f,f,t,f,t,f,t,f,t,f,f,f,f,f,f,f,f,f,f,f,f,f,f,f,f,f,f] 1) := exec_loop T s _ _ _
def lockstepref11_Check_b3 : Go.A.Code :=
   (.seq (.seq (.reg [q (.mv (.s 11)), q (.mv (.s 6)), q (.len (.l 0)), w 24 (.bin .lss (.l 2) (.l 0))])
   (.cond (.s 24) .skip
   (.exit 6 [f,f,f,f,f,f,f,f,f,f,f,f,f,f,f,f,f,f,f,f,f,f,f,f,f,f,f] 2)))
   (.seq (.block 7 (.seq (.reg [q (.mv (.s 6)), q (.mv (.s 11)), q (.ia 5 (.l 1) (.l 0)), q (.ld (some 5) (.l 0)), w 12 (.al [.f (.lit (.int .i64 0)), .f (.lit (.int .i64 0)), .f (.lit (.int .i64 0)), .f (.lit (.int .i64 0)), .f (.lit (.int .i64 0))] []), e (.st 5 (.s 12) (.l 1))])
   (.seq (.reg [q (.mv (.s 4)), q (.mv (.s 4)), q (.fa 0 (.s 12)), q (.ld none (.l 0)), q (.call .cl (.c (.one (.fn F.lockstepref11_Find [] []))) [(.l 2), (.l 0)]), q (.ia 5 (.l 4) (.l 0)), q (.ld (some 5) (.l 0)), w 13 (.al [.f (.lit (.int .i64 0)), .f (.lit (.int .i64 0)), .f (.lit (.int .i64 0)), .f (.lit (.int .i64 0)), .f (.lit (.int .i64 0))] []), e (.st 5 (.s 13) (.l 1))])
   (.seq (.seq (.reg [q (.fa 1 (.s 13)), q (.ld none (.l 0)), q (.bin .lss (.l 0) (i 0)), q (.mv (.l 0)), ⟨.loc, .fa 1 (.s 13), (some (.l 0, false))⟩, ⟨.loc, .ld none (.l 0), (some (.l 1, false))⟩, ⟨.loc, .fa 1 (.s 12), (some (.l 2, false))⟩, ⟨.loc, .ld none (.l 0), (some (.l 3, false))⟩, ⟨.loc, .bin .eql (.l 2) (.l 0), (some (.l 4, false))⟩, ⟨.loc, .mv (.l 0), (some (.l 5, false))⟩, ⟨.loc, .fa 2 (.s 13), (some (.l 0, true))⟩, ⟨.loc, .ld none (.l 0), (some (.l 1, true))⟩, ⟨.loc, .fa 2 (.s 12), (some (.l 2, true))⟩, ⟨.loc, .ld none (.l 0), (some (.l 3, true))⟩, ⟨.loc, .bin .lss (.l 2) (.l 0), (some (.l 4, true))⟩, ⟨.loc, .pick (.l 5) (.l 0) (bo false), (some (.l 11, false))⟩, w 25 (.pick (.l 12) (bo true) (.l 0))])
   (.cond (.s 25) (.exit 7 [f,f,f,f,t,f,t,f,f,f,t,t,f,f,f,f,f,f,f,f,f,f,f,f,f,f,f] 2)
   .skip))
   (.seq (.reg [q (.fa 1 (.s 13)), q (.ld none (.l 0)), q (.fa 1 (.s 12)), q (.ld none (.l 0)), q (.bin .eql (.l 2) (.l 0)), q (.mv (.l 0)), ⟨.loc, .mv (.s 10), (some (.l 0, false))⟩, ⟨.loc, .fa 1 (.s 13), (some (.l 1, false))⟩, ⟨.loc, .ld none (.l 0), (some (.l 2, false))⟩, ⟨.loc, .fa 1 (.s 12), (some (.l 3, false))⟩, ⟨.loc, .ld none (.l 0), (some (.l 4, false))⟩, ⟨.loc, .call .cl (.c (.one (.fn F.lockstepref07_Meet [] []))) [(.l 4), (.l 2), (.l 0)], (some (.l 5, false))⟩, ⟨.loc, .fa 1 (.s 13), (some (.l 6, false))⟩, ⟨.loc, .ld none (.l 0), (some (.l 7, false))⟩, ⟨.loc, .bin .neq (.l 2) (.l 0), (some (.l 8, false))⟩, w 26 (.pick (.l 9) (bo true) (.l 0))])
   (.cond (.s 26) (.seq (.reg [w 3 (.mv (i 7))])
   (.ret [f,f,f,t,f,f,f,f,f,f,f,f,f,f,f,f,f,f,f,f,f,f,f,f,f,f,f]))
   .skip))))))
   (.reg [q (.mv (.s 11)), q (.bin .add (.l 0) (i 1)), w 11 (.mv (.l 0))])))
def lockstepref11_Check_l3 : Go.A.Code := .loop [f,f,f,f,t,f,t,f,f,f,t,t,f,f,f,f,f,f,f,f,f,f,f,f,f,f,f] 2 lockstepref11_Check_b3
theorem lockstepref11_Check_l3_eq (T : Nat → Option Entry) (s : St) : exec T lockstepref11_Check_l3 s = (exec T lockstepref11_Check_b3 s).bind (loopK (exec T lockstepref11_Check_l3) [f,f,f,f,t,f,t,f,f,f,t,t,f,f,f,f,f,f,f,f,f,f,f,f,f,f,f] 2) := exec_loop T s _ _ _
/-- lockstep/lockstepref11.Check -/
def a_lockstepref11_Check : Fun := { np := 2, nslots := 27, keep := 0, raw := false, results := [(3, none)], body :=
   (.seq (.reg [w 2 (.box 3 (.s 0)), w 3 (.mv (i 0))])
   (.seq (.seq (.reg [q (.mv (.s 1)), q (.bin .lss (.l 0) (i 0)), q (.mv (.l 0)), ⟨.loc, .mv (.s 1), (some (.l 0, false))⟩, ⟨.loc, .bin .gtr (.l 0) (i 2), (some (.l 1, false))⟩, w 14 (.pick (.l 2) (bo true) (.l 0))])
   (.cond (.s 14) (.seq (.reg [w 3 (.mv (i 1))])
   (.ret [f,f,f,t,f,f,f,f,f,f,f,f,f,f,f,f,f,f,f,f,f,f,f,f,f,f,f]))
   .skip))
   (.seq (.seq (.reg [q (.ld (some 3) (.s 2)), q (.call .cl (.c (.one (.fn F.lockstepref04_May [] []))) [(.l 0)]), w 15 (.un .not (.l 0))])
   (.cond (.s 15) (.seq (.reg [w 3 (.mv (i 4))])
   (.ret [f,f,f,t,f,f,f,f,f,f,f,f,f,f,f,f,f,f,f,f,f,f,f,f,f,f,f]))
   .skip))
   (.seq (.seq (.reg [q (.ld (some 3) (.s 2)), q (.call .cl (.c (.one (.fn F.lockstepref11_shape [] []))) [(.l 0)]), w 16 (.un .not (.l 0))])
   (.cond (.s 16) (.seq (.reg [w 3 (.mv (i 5))])
   (.ret [f,f,f,t,f,f,f,f,f,f,f,f,f,f,f,f,f,f,f,f,f,f,f,f,f,f,f]))
   .skip))
   (.seq (.seq (.reg [q (.ld (some 3) (.s 2)), q (.mv (.s 1)), q (.call .cl (.c (.one (.fn F.lockstepref11_typed [] []))) [(.l 1), (.l 0)]), w 17 (.un .not (.l 0))])
   (.cond (.s 17) (.seq (.reg [w 3 (.mv (i 6))])
   (.ret [f,f,f,t,f,f,f,f,f,f,f,f,f,f,f,f,f,f,f,f,f,f,f,f,f,f,f]))
   .skip))
   (.seq (.reg [q (.ld (some 3) (.s 2)), q (.call .cl (.c (.one (.fn F.lockstepref11_Defs [] []))) [(.l 0)]), w 4 (.mv (.l 0))])
   (.seq (.seq (.reg [w 5 (.mv (i 0))])
   (.block 0 lockstepref11_Check_l0))
   (.seq (.reg [q (.ld (some 3) (.s 2)), q (.call .cl (.c (.one (.fn F.lockstepref11_Uses [] []))) [(.l 0)]), w 6 (.mv (.l 0))])
   (.seq (.seq (.reg [w 7 (.mv (i 0))])
   (.block 2 lockstepref11_Check_l1))
   (.seq (.seq (.reg [w 8 (.mv (i 0))])
   (.block 4 lockstepref11_Check_l2))
   (.seq (.reg [q (.ld (some 3) (.s 2)), q (.call .cl (.c (.one (.fn F.lockstepref06_Of [] []))) [(.l 0)]), q (.mv (.l 0)), q (.ext (.l 0) 0), q (.ext (.l 1) 1), w 9 (.al [.f (.sl []), .f (.sl [])] []), e (.st 2 (.s 9) (.l 2)), q (.mv (.l 2))])
   (.seq (.reg [q (.ld (some 2) (.s 9)), q (.call .cl (.c (.one (.fn F.lockstepref07_Tree [] []))) [(.l 0), (i 0)]), w 10 (.mv (.l 0))])
   (.seq (.seq (.reg [w 11 (.mv (i 0))])
   (.block 6 lockstepref11_Check_l3))
   (.seq (.reg [w 3 (.mv (i 0))])
   (.ret [f,f,f,t,f,f,f,f,f,f,f,f,f,f,f,f,f,f,f,f,f,f,f,f,f,f,f]))))))))))))))) }
def k_lockstepref11_Check : List Go.Tmp := [0, 1, 2, 4, 5, 6, 7, 8, 9, 10, 12, 13, 14, 15, 21, 24, 27, 31, 37, 57, 63, 73, 77, 96, 107, 137, 153]
theorem c_lockstepref11_Check : chkFun Go.Proofs.Tryz.prog (drawsOf Go.Proofs.Tryz.prog) k_lockstepref11_Check Go.Proofs.Tryz.f22 a_lockstepref11_Check = true := by kernel_rfl

def lockstepref02_Ints_b0 : Go.A.Code :=
   (.seq (.seq (.reg [q (.mv (.s 3)), q (.mv (.s 0)), q (.len (.l 0)), w 5 (.bin .lss (.l 2) (.l 0))])
   (.cond (.s 5) .skip
   (.exit 0 [f,f,f,f,f,f,f] 0)))
   (.seq (.block 1 (.seq (.reg [q (.mv (.s 0)), q (.mv (.s 3)), q (.ia 1 (.l 1) (.l 0)), q (.ld none (.l 0)), q (.mv (.s 1)), q (.mv (.s 3)), q (.ia 1 (.l 1) (.l 0)), q (.ld none (.l 0)), w 6 (.bin .neq (.l 4) (.l 0))])
   (.cond (.s 6) (.seq (.reg [w 2 (.mv (bo false))])
   (.ret [f,f,t,f,f,f,f]))
   .skip)))
   (.reg [q (.mv (.s 3)), q (.bin .add (.l 0) (i 1)), w 3 (.mv (.l 0))])))
def lockstepref02_Ints_l0 : Go.A.Code := .loop [t,t,f,t,f,f,f] 0 lockstepref02_Ints_b0
theorem lockstepref02_Ints_l0_eq (T : Nat → Option Entry) (s : St) : exec T lockstepref02_Ints_l0 s = (exec T lockstepref02_Ints_b0 s).bind (loopK (exec T lockstepref02_Ints_l0) [t,t,f,t,f,f,f] 0) := exec_loop T s _ _ _
/-- lockstep/lockstepref02.Ints -/
def a_lockstepref02_Ints : Fun := { np := 2, nslots := 7, keep := 0, raw := false, results := [(2, none)], body :=
   (.seq (.reg [w 2 (.mv (bo false))])
   (.seq (.seq (.reg [q (.mv (.s 0)), q (.len (.l 0)), q (.mv (.s 1)), q (.len (.l 0)), w 4 (.bin .neq (.l 2) (.l 0))])
   (.cond (.s 4) (.seq (.reg [w 2 (.mv (bo false))])
   (.ret [f,f,t,f,f,f,f]))
   .skip))
   (.seq (.seq (.reg [w 3 (.mv (i 0))])
   (.block 0 lockstepref02_Ints_l0))
   (.seq (.reg [w 2 (.mv (bo true))])
   (.ret [f,f,t,f,f,f,f]))))) }
def k_lockstepref02_Ints : List Go.Tmp := [0, 1, 4, 5, 10, 14, 25]
theorem c_lockstepref02_Ints : chkFun Go.Proofs.Tryz.prog (drawsOf Go.Proofs.Tryz.prog) k_lockstepref02_Ints Go.Proofs.Tryz.f32 a_lockstepref02_Ints = true := by kernel_rfl

/-- lockstep/check.Check -/
def a_check_Check : Fun := { np := 2, nslots := 6, keep := 0, raw := false, results := [(3, none)], body :=
   (.seq (.reg [w 2 (.box 3 (.s 0)), w 3 (.mv (i 0))])
   (.seq (.seq (.reg [q (.mv (.s 1)), q (.bin .lss (.l 0) (i 0)), q (.mv (.l 0)), ⟨.loc, .mv (.s 1), (some (.l 0, false))⟩, ⟨.loc, .bin .gtr (.l 0) (i 2), (some (.l 1, false))⟩, w 5 (.pick (.l 2) (bo true) (.l 0))])
   (.cond (.s 5) (.seq (.reg [w 3 (.mv (i 1))])
   (.ret [f,f,f,t,f,f]))
   .skip))
   (.seq (.reg [q (.ld (some 3) (.s 2)), q (.mv (.s 1)), q (.call .ck (.c (.one (.fn F.check_look [] []))) [(.l 1), (.l 0)]), q (.mv (.l 0)), q (.ext (.l 0) 0), q (.ext (.l 1) 1), q (.mv (.l 1)), w 4 (.mv (.l 1))])
   (.seq (.reg [q (.mv (.s 4)), w 3 (.mv (.l 0))])
   (.ret [f,f,f,t,f,f]))))) }
def k_check_Check : List Go.Tmp := [0, 1, 2, 4, 6, 12]
theorem c_check_Check : chkFun Go.Proofs.Tryz.prog (drawsOf Go.Proofs.Tryz.prog) k_check_Check Go.Proofs.Tryz.f40 a_check_Check = true := by kernel_rfl

/-- lockstep/word.Cut -/
def a_word_Cut : Fun := { np := 2, nslots := 4, keep := 0, raw := false, results := [(2, none)], body :=
   (.seq (.reg [w 2 (.mv (ik .u64 0))])
   (.seq (.seq (.reg [q (.mv (.s 1)), q (.call .cl (.c (.one (.fn F.word_May [] []))) [(.l 0)]), w 3 (.un .not (.l 0))])
   (.cond (.s 3) (.seq (.reg [w 2 (.mv (ik .u64 0))])
   (.ret [f,f,t,f]))
   .skip))
   (.seq (.reg [q (.mv (.s 0)), q (.mv (.s 1)), q (.bin .sub (i 64) (.l 0)), q (.bin .shl (.l 2) (.l 0)), q (.mv (.s 1)), q (.bin .sub (i 64) (.l 0)), q (.bin .shr (.l 2) (.l 0)), w 2 (.mv (.l 0))])
   (.ret [f,f,t,f])))) }
def k_word_Cut : List Go.Tmp := [0, 1, 4, 7]
theorem c_word_Cut : chkFun Go.Proofs.Tryz.prog (drawsOf Go.Proofs.Tryz.prog) k_word_Cut Go.Proofs.Tryz.f41 a_word_Cut = true := by kernel_rfl

def eval_machine_run_b0 : Go.A.Code :=
   (.seq (.reg [w 13 (.bin .lss (.s 12) (.s 11))])
   (.seq (.cond (.s 13) .skip
   (.exit 0 [t,f,f,t,t,f,t,f,f,f,f,f,f,f,f,f,f,f,f,f] 11))
   (.seq (.block 1 (.seq (.reg [q (.ia 6 (.s 10) (.s 12)), q (.ld (some 6) (.l 0)), w 7 (.al [.f (.lit (.int .i64 0)), .f (.lit (.int .i64 0)), .f (.lit (.int .i64 0)), .f (.lit (.int .i64 0)), .f (.sl []), .f (.lit (.int .u64 0))] []), e (.st 6 (.s 7) (.l 1))])
   (.seq (.seq (.reg [q (.mv (.s 0)), q (.call .op (.c (.one (.fn F.eval_machine_step [] []))) [(.l 0)]), w 14 (.un .not (.l 0))])
   (.cond (.s 14) (.seq (.reg [w 1 (.mv (i 9)), w 2 (.mv (ik .u64 0))])
   (.ret [f,t,t,f,f,f,f,f,f,f,f,f,f,f,f,f,f,f,f,f]))
   .skip))
   (.seq (.reg [q (.mv (.s 3)), q (.fa 0 (.s 7)), q (.ld none (.l 0)), q (.lk (.one (.f (.lit .nilFunc))) false (.l 2) (.l 0)), q (.ld (some 6) (.s 7)), q (.call .op (.l 1) [(.l 0)]), q (.mv (.l 0)), q (.ext (.l 0) 0), q (.ext (.l 1) 1), w 8 (.mv (.l 1)), w 9 (.mv (.l 1))])
   (.seq (.seq (.reg [q (.mv (.s 9)), w 15 (.bin .neq (.l 0) (i 0))])
   (.cond (.s 15) (.seq (.reg [w 1 (.mv (i 8)), w 2 (.mv (ik .u64 0))])
   (.ret [f,t,t,f,f,f,f,f,f,f,f,f,f,f,f,f,f,f,f,f]))
   .skip))
   (.seq (.reg [q (.fa 3 (.s 7)), q (.ld none (.l 0)), w 16 (.bin .gtr (.l 0) (i 0))])
   (.cond (.s 16) (.reg [q (.mv (.s 0)), q (.nil (.l 0)), q (.fa 4 (.l 0)), q (.ld none (.l 0)), q (.fa 3 (.s 7)), q (.ld none (.l 0)), q (.mv (.s 8)), e (.mu (.l 3) (.l 1) (.l 0))])
   .skip)))))))
   (.reg [q (.bin .add (.s 12) (i 1)), w 12 (.mv (.l 0))]))))
def eval_machine_run_l0 : Go.A.Code := .loop [t,f,f,t,t,f,t,f,f,f,t,t,t,f,f,f,f,f,f,f] 11 eval_machine_run_b0
theorem eval_machine_run_l0_eq (T : Nat → Option Entry) (s : St) : exec T eval_machine_run_l0 s = (exec T eval_machine_run_b0 s).bind (loopK (exec T eval_machine_run_l0) [t,f,f,t,t,f,t,f,f,f,t,t,t,f,f,f,f,f,f,f] 11) := exec_loop T s _ _ _
def eval_machine_run_s1 : Go.A.Code :=
   (.seq (.reg [q (.mv (.s 0)), q (.call .op (.c (.one (.fn F.eval_machine_all [] []))) [(.l 0)]), w 3 (.mv (.l 0))])
   (.seq (.reg [w 4 (.mv (i 0)), w 5 (.mv (i 0))])
   (.seq (.label 0)
   (.seq (.reg [q (.mv (.s 0)), q (.nil (.l 0)), q (.fa 1 (.l 0)), q (.fa 2 (.l 0)), q (.ld none (.l 0)), q (.mv (.s 4)), q (.ia 5 (.l 1) (.l 0)), q (.ld (some 5) (.l 0)), w 6 (.al [.f (.sl []), .f (.sl []), .f (.lit (.int .i64 0)), .f (.lit (.int .i64 0)), .f (.sl [])] []), e (.st 5 (.s 6) (.l 1))])
   (.seq (.reg [q (.mv (.s 0)), q (.ld (some 5) (.s 6)), q (.mv (.s 5)), q (.call .op (.c (.one (.fn F.eval_machine_phis [] []))) [(.l 2), (.l 1), (.l 0)])])
   (.seq (.seq (.reg [q (.fa 1 (.s 6)), w 10 (.ld none (.l 0)), w 11 (.len (.s 10)), w 12 (.mv (i 0))])
   (.block 0 eval_machine_run_l0))
   (.seq (.block 2 (.seq (.reg [q (.mv (.s 0)), q (.call .op (.c (.one (.fn F.eval_machine_step [] []))) [(.l 0)]), q (.un .not (.l 0)), w 17 (.mv (.l 0))])
   (.cond (.s 17) (.seq (.reg [w 1 (.mv (i 9)), w 2 (.mv (ik .u64 0))])
   (.ret [f,t,t,f,f,f,f,f,f,f,f,f,f,f,f,f,f,f,f,f]))
   (.seq (.reg [q (.fa 2 (.s 6)), q (.fa 0 (.l 0)), q (.ld none (.l 0)), q (.bin .eql (.l 0) (i 3)), w 18 (.mv (.l 0))])
   (.cond (.s 18) (.seq (.reg [w 1 (.mv (i 8)), w 2 (.mv (ik .u64 0))])
   (.ret [f,t,t,f,f,f,f,f,f,f,f,f,f,f,f,f,f,f,f,f]))
   (.seq (.reg [q (.fa 2 (.s 6)), q (.fa 0 (.l 0)), q (.ld none (.l 0)), q (.bin .eql (.l 0) (i 0)), w 19 (.mv (.l 0))])
   (.cond (.s 19) (.seq (.reg [q (.mv (.s 0)), q (.nil (.l 0)), q (.fa 4 (.l 0)), q (.ld none (.l 0)), q (.fa 2 (.s 6)), q (.fa 1 (.l 0)), q (.ld none (.l 0)), q (.lk (.one (.f (.sl []))) false (.l 3) (.l 0)), q (.ia 1 (.l 0) (i 0)), q (.ld none (.l 0)), w 1 (.mv (i 0)), w 2 (.mv (.l 1))])
   (.ret [f,t,t,f,f,f,f,f,f,f,f,f,f,f,f,f,f,f,f,f]))
   .skip)))))))
   (.seq (.reg [q (.mv (.s 4)), q (.mv (.s 0)), q (.fa 2 (.s 6)), q (.ld (some 3) (.l 0)), q (.call .op (.c (.one (.fn F.eval_machine_next [] []))) [(.l 2), (.l 0)]), w 5 (.mv (.l 4)), w 4 (.mv (.l 1))])
   (.goto 0 [t,f,f,t,t,t,f,f,f,f,f,f,f,f,f,f,f,f,f,f] 10)))))))))
def eval_machine_run_r1 : Go.A.Code := (findLabel eval_machine_run_s1 0).getD .skip
theorem eval_machine_run_r1_eq : findLabel eval_machine_run_s1 0 = some eval_machine_run_r1 := rfl
/-- (*lockstep/eval.machine).run -/
def a_eval_machine_run : Fun := { np := 1, nslots := 20, keep := 0, raw := false, results := [(1, none), (2, none)], body :=
   (.seq (.reg [w 1 (.mv (i 0)), w 2 (.mv (ik .u64 0))])
   (.scope eval_machine_run_s1)) }
def k_eval_machine_run : List Go.Tmp := [0, 2, 3, 4, 5, 6, 7, 9, 10, 11, 27, 28, 29, 30, 35, 46, 49, 58, 62, 67]
theorem c_eval_machine_run : chkFun Go.Proofs.Tryz.prog (drawsOf Go.Proofs.Tryz.prog) k_eval_machine_run Go.Proofs.Tryz.f42 a_eval_machine_run = true := by kernel_rfl

/-- lockstep/lockstepref01.May -/
def a_lockstepref01_May : Fun := { np := 1, nslots := 2, keep := 0, raw := false, results := [(1, none)], body :=
   (.seq (.reg [w 1 (.mv (bo false))])
   (.seq (.reg [q (.mv (.s 0)), q (.bin .eql (.l 0) (i 1)), q (.mv (.l 0)), ⟨.loc, .mv (.s 0), (some (.l 0, false))⟩, ⟨.loc, .bin .eql (.l 0) (i 8), (some (.l 1, false))⟩, q (.pick (.l 2) (bo true) (.l 0)), q (.mv (.l 0)), ⟨.loc, .mv (.s 0), (some (.l 0, false))⟩, ⟨.loc, .bin .eql (.l 0) (i 16), (some (.l 1, false))⟩, q (.pick (.l 2) (bo true) (.l 0)), q (.mv (.l 0)), ⟨.loc, .mv (.s 0), (some (.l 0, false))⟩, ⟨.loc, .bin .eql (.l 0) (i 32), (some (.l 1, false))⟩, q (.pick (.l 2) (bo true) (.l 0)), q (.mv (.l 0)), ⟨.loc, .mv (.s 0), (some (.l 0, false))⟩, ⟨.loc, .bin .eql (.l 0) (i 64), (some (.l 1, false))⟩, q (.pick (.l 2) (bo true) (.l 0)), w 1 (.mv (.l 0))])
   (.ret [f,t]))) }
def k_lockstepref01_May : List Go.Tmp := [0, 2]
theorem c_lockstepref01_May : chkFun Go.Proofs.Tryz.prog (drawsOf Go.Proofs.Tryz.prog) k_lockstepref01_May Go.Proofs.Tryz.f43 a_lockstepref01_May = true := by kernel_rfl

/-- lockstep/lockstepref01.Cut -/
def a_lockstepref01_Cut : Fun := { np := 2, nslots := 5, keep := 0, raw := false, results := [(2, none)], body :=
   (.seq (.reg [w 2 (.mv (ik .u64 0))])
   (.seq (.seq (.reg [q (.mv (.s 1)), q (.call .cl (.c (.one (.fn F.lockstepref01_May [] []))) [(.l 0)]), w 3 (.un .not (.l 0))])
   (.cond (.s 3) (.seq (.reg [w 2 (.mv (ik .u64 0))])
   (.ret [f,f,t,f,f]))
   .skip))
   (.seq (.seq (.reg [q (.mv (.s 1)), w 4 (.bin .eql (.l 0) (i 64))])
   (.cond (.s 4) (.seq (.reg [q (.mv (.s 0)), w 2 (.mv (.l 0))])
   (.ret [f,f,t,f,f]))
   .skip))
   (.seq (.reg [q (.mv (.s 0)), q (.mv (.s 1)), q (.conv .u64 (.l 0)), q (.bin .shl (ik .u64 1) (.l 0)), q (.bin .rem (.l 3) (.l 0)), w 2 (.mv (.l 0))])
   (.ret [f,f,t,f,f]))))) }
def k_lockstepref01_Cut : List Go.Tmp := [0, 1, 4, 7, 9]
theorem c_lockstepref01_Cut : chkFun Go.Proofs.Tryz.prog (drawsOf Go.Proofs.Tryz.prog) k_lockstepref01_Cut Go.Proofs.Tryz.f44 a_lockstepref01_Cut = true := by kernel_rfl

def lockstepref04_May_b0 : Go.A.Code :=
   (.seq (.seq (.reg [q (.mv (.s 5)), q (.fa 0 (.s 4)), q (.ld none (.l 0)), q (.len (.l 0)), w 11 (.bin .lss (.l 3) (.l 0))])
   (.cond (.s 11) .skip
   (.exit 2 [f,t,f,t,t,f,f,f,f,f,f,f,f,f,f,f] 2)))
   (.seq (.block 3 (.seq (.reg [q (.fa 0 (.s 4)), q (.ld none (.l 0)), q (.mv (.s 5)), q (.ia 4 (.l 1) (.l 0)), q (.ld (some 4) (.l 0)), w 6 (.al [.f (.lit (.int .i64 0)), .f (.lit (.int .i64 0)), .f (.sl []), .f (.sl [])] []), e (.st 4 (.s 6) (.l 1))])
   (.seq (.reg [q (.fa 0 (.s 6)), q (.ld none (.l 0)), q (.call .cl (.c (.one (.fn F.lockstepref04_num [] []))) [(.l 0)]), q (.un .not (.l 0)), q (.mv (.l 0)), ⟨.loc, .fa 1 (.s 6), (some (.l 0, false))⟩, ⟨.loc, .ld none (.l 0), (some (.l 1, false))⟩, ⟨.loc, .call .cl (.c (.one (.fn F.lockstepref04_num [] []))) [(.l 0)], (some (.l 2, false))⟩, ⟨.loc, .un .not (.l 0), (some (.l 3, false))⟩, q (.pick (.l 4) (bo true) (.l 0)), q (.mv (.l 0)), ⟨.loc, .fa 2 (.s 6), (some (.l 0, false))⟩, ⟨.loc, .ld none (.l 0), (some (.l 1, false))⟩, ⟨.loc, .call .cl (.c (.one (.fn F.lockstepref04_list [] []))) [(.l 0)], (some (.l 2, false))⟩, ⟨.loc, .un .not (.l 0), (some (.l 3, false))⟩, q (.pick (.l 4) (bo true) (.l 0)), q (.mv (.l 0)), ⟨.loc, .fa 3 (.s 6), (some (.l 0, false))⟩, ⟨.loc, .ld none (.l 0), (some (.l 1, false))⟩, ⟨.loc, .call .cl (.c (.one (.fn F.lockstepref04_list [] []))) [(.l 0)], (some (.l 2, false))⟩, ⟨.loc, .un .not (.l 0), (some (.l 3, false))⟩, w 12 (.pick (.l 4) (bo true) (.l 0))])
   (.cond (.s 12) (.seq (.reg [w 2 (.mv (bo false))])
   (.ret [f,f,t,f,f,f,f,f,f,f,f,f,f,f,f,f]))
   .skip))))
   (.reg [q (.mv (.s 5)), q (.bin .add (.l 0) (i 1)), w 5 (.mv (.l 0))])))
def lockstepref04_May_l0 : Go.A.Code := .loop [f,t,f,t,t,t,f,f,f,f,f,f,f,f,f,f] 2 lockstepref04_May_b0
theorem lockstepref04_May_l0_eq (T : Nat → Option Entry) (s : St) : exec T lockstepref04_May_l0 s = (exec T lockstepref04_May_b0 s).bind (loopK (exec T lockstepref04_May_l0) [f,t,f,t,t,t,f,f,f,f,f,f,f,f,f,f] 2) := exec_loop T s _ _ _
def lockstepref04_May_b1 : Go.A.Code :=
   (.seq (.seq (.reg [q (.mv (.s 7)), q (.fa 1 (.s 4)), q (.ld none (.l 0)), q (.len (.l 0)), w 13 (.bin .lss (.l 3) (.l 0))])
   (.cond (.s 13) .skip
   (.exit 4 [f,t,f,t,t,f,f,f,f,f,f,f,f,f,f,f] 2)))
   (.seq (.block 5 (.seq (.reg [q (.fa 1 (.s 4)), q (.ld none (.l 0)), q (.mv (.s 7)), q (.ia 6 (.l 1) (.l 0)), q (.ld (some 6) (.l 0)), w 8 (.al [.f (.lit (.int .i64 0)), .f (.lit (.int .i64 0)), .f (.lit (.int .i64 0)), .f (.lit (.int .i64 0)), .f (.sl []), .f (.lit (.int .u64 0))] []), e (.st 6 (.s 8) (.l 1))])
   (.seq (.reg [q (.fa 0 (.s 8)), q (.ld none (.l 0)), q (.call .cl (.c (.one (.fn F.lockstepref04_num [] []))) [(.l 0)]), q (.un .not (.l 0)), q (.mv (.l 0)), ⟨.loc, .fa 1 (.s 8), (some (.l 0, false))⟩, ⟨.loc, .ld none (.l 0), (some (.l 1, false))⟩, ⟨.loc, .call .cl (.c (.one (.fn F.lockstepref04_num [] []))) [(.l 0)], (some (.l 2, false))⟩, ⟨.loc, .un .not (.l 0), (some (.l 3, false))⟩, q (.pick (.l 4) (bo true) (.l 0)), q (.mv (.l 0)), ⟨.loc, .fa 2 (.s 8), (some (.l 0, false))⟩, ⟨.loc, .ld none (.l 0), (some (.l 1, false))⟩, ⟨.loc, .call .cl (.c (.one (.fn F.lockstepref04_num [] []))) [(.l 0)], (some (.l 2, false))⟩, ⟨.loc, .un .not (.l 0), (some (.l 3, false))⟩, q (.pick (.l 4) (bo true) (.l 0)), q (.mv (.l 0)), ⟨.loc, .fa 3 (.s 8), (some (.l 0, false))⟩, ⟨.loc, .ld none (.l 0), (some (.l 1, false))⟩, ⟨.loc, .call .cl (.c (.one (.fn F.lockstepref04_num [] []))) [(.l 0)], (some (.l 2, false))⟩, ⟨.loc, .un .not (.l 0), (some (.l 3, false))⟩, q (.pick (.l 4) (bo true) (.l 0)), q (.mv (.l 0)), ⟨.loc, .fa 4 (.s 8), (some (.l 0, false))⟩, ⟨.loc, .ld none (.l 0), (some (.l 1, false))⟩, ⟨.loc, .call .cl (.c (.one (.fn F.lockstepref04_list [] []))) [(.l 0)], (some (.l 2, false))⟩, ⟨.loc, .un .not (.l 0), (some (.l 3, false))⟩, w 14 (.pick (.l 4) (bo true) (.l 0))])
   (.cond (.s 14) (.seq (.reg [w 2 (.mv (bo false))])
   (.ret [f,f,t,f,f,f,f,f,f,f,f,f,f,f,f,f]))
   .skip))))
   (.reg [q (.mv (.s 7)), q (.bin .add (.l 0) (i 1)), w 7 (.mv (.l 0))])))
def lockstepref04_May_l1 : Go.A.Code := .loop [f,t,f,t,t,f,f,t,f,f,f,f,f,f,f,f] 2 lockstepref04_May_b1
theorem lockstepref04_May_l1_eq (T : Nat → Option Entry) (s : St) : exec T lockstepref04_May_l1 s = (exec T lockstepref04_May_b1 s).bind (loopK (exec T lockstepref04_May_l1) [f,t,f,t,t,f,f,t,f,f,f,f,f,f,f,f] 2) := exec_loop T s _ _ _
def lockstepref04_May_b2 : Go.A.Code :=
   (.seq (.seq (.reg [q (.mv (.s 3)), q (.fa 2 (.s 1)), q (.ld none (.l 0)), q (.len (.l 0)), w 10 (.bin .lss (.l 3) (.l 0))])
   (.cond (.s 10) .skip
   (.exit 0 [f,f,f,f,f,f,f,f,f,f,f,f,f,f,f,f] 1)))
   (.seq (.block 1 (.seq (.reg [q (.fa 2 (.s 1)), q (.ld none (.l 0)), q (.mv (.s 3)), q (.ia 5 (.l 1) (.l 0)), q (.ld (some 5) (.l 0)), w 4 (.al [.f (.sl []), .f (.sl []), .f (.lit (.int .i64 0)), .f (.lit (.int .i64 0)), .f (.sl [])] []), e (.st 5 (.s 4) (.l 1))])
   (.seq (.seq (.reg [w 5 (.mv (i 0))])
   (.block 2 lockstepref04_May_l0))
   (.seq (.seq (.reg [w 7 (.mv (i 0))])
   (.block 4 lockstepref04_May_l1))
   (.seq (.reg [q (.fa 2 (.s 4)), q (.fa 0 (.l 0)), q (.ld none (.l 0)), q (.call .cl (.c (.one (.fn F.lockstepref04_num [] []))) [(.l 0)]), q (.un .not (.l 0)), q (.mv (.l 0)), ⟨.loc, .fa 2 (.s 4), (some (.l 0, false))⟩, ⟨.loc, .fa 1 (.l 0), (some (.l 1, false))⟩, ⟨.loc, .ld none (.l 0), (some (.l 2, false))⟩, ⟨.loc, .call .cl (.c (.one (.fn F.lockstepref04_num [] []))) [(.l 0)], (some (.l 3, false))⟩, ⟨.loc, .un .not (.l 0), (some (.l 4, false))⟩, q (.pick (.l 5) (bo true) (.l 0)), q (.mv (.l 0)), ⟨.loc, .fa 2 (.s 4), (some (.l 0, false))⟩, ⟨.loc, .fa 2 (.l 0), (some (.l 1, false))⟩, ⟨.loc, .ld none (.l 0), (some (.l 2, false))⟩, ⟨.loc, .call .cl (.c (.one (.fn F.lockstepref04_list [] []))) [(.l 0)], (some (.l 3, false))⟩, ⟨.loc, .un .not (.l 0), (some (.l 4, false))⟩, w 15 (.pick (.l 5) (bo true) (.l 0))])
   (.cond (.s 15) (.seq (.reg [w 2 (.mv (bo false))])
   (.ret [f,f,t,f,f,f,f,f,f,f,f,f,f,f,f,f]))
   .skip))))))
   (.reg [q (.mv (.s 3)), q (.bin .add (.l 0) (i 1)), w 3 (.mv (.l 0))])))
def lockstepref04_May_l2 : Go.A.Code := .loop [f,t,f,t,f,f,f,f,f,f,f,f,f,f,f,f] 1 lockstepref04_May_b2
theorem lockstepref04_May_l2_eq (T : Nat → Option Entry) (s : St) : exec T lockstepref04_May_l2 s = (exec T lockstepref04_May_b2 s).bind (loopK (exec T lockstepref04_May_l2) [f,t,f,t,f,f,f,f,f,f,f,f,f,f,f,f] 1) := exec_loop T s _ _ _
/-- lockstep/lockstepref04.May -/
def a_lockstepref04_May : Fun := { np := 1, nslots := 16, keep := 0, raw := false, results := [(2, none)], body :=
   (.seq (.reg [w 1 (.box 3 (.s 0)), w 2 (.mv (bo false))])
   (.seq (.seq (.reg [q (.fa 2 (.s 1)), q (.ld none (.l 0)), q (.len (.l 0)), q (.bin .eql (.l 0) (i 0)), q (.mv (.l 0)), ⟨.loc, .fa 2 (.s 1), (some (.l 0, false))⟩, ⟨.loc, .ld none (.l 0), (some (.l 1, false))⟩, ⟨.loc, .len (.l 0), (some (.l 2, false))⟩, ⟨.loc, .bin .gtr (.l 0) (i 64), (some (.l 3, false))⟩, q (.pick (.l 4) (bo true) (.l 0)), q (.mv (.l 0)), ⟨.loc, .fa 0 (.s 1), (some (.l 0, false))⟩, ⟨.loc, .ld none (.l 0), (some (.l 1, false))⟩, ⟨.loc, .len (.l 0), (some (.l 2, false))⟩, ⟨.loc, .bin .gtr (.l 0) (i 16), (some (.l 3, false))⟩, q (.pick (.l 4) (bo true) (.l 0)), q (.mv (.l 0)), ⟨.loc, .fa 0 (.s 1), (some (.l 0, false))⟩, ⟨.loc, .ld none (.l 0), (some (.l 1, false))⟩, ⟨.loc, .call .cl (.c (.one (.fn F.lockstepref04_list [] []))) [(.l 0)], (some (.l 2, false))⟩, ⟨.loc, .un .not (.l 0), (some (.l 3, false))⟩, q (.pick (.l 4) (bo true) (.l 0)), q (.mv (.l 0)), ⟨.loc, .fa 1 (.s 1), (some (.l 0, false))⟩, ⟨.loc, .ld none (.l 0), (some (.l 1, false))⟩, ⟨.loc, .call .cl (.c (.one (.fn F.lockstepref04_num [] []))) [(.l 0)], (some (.l 2, false))⟩, ⟨.loc, .un .not (.l 0), (some (.l 3, false))⟩, q (.pick (.l 4) (bo true) (.l 0)), q (.mv (.l 0)), ⟨.loc, .ld (some 3) (.s 1), (some (.l 0, false))⟩, ⟨.loc, .call .cl (.c (.one (.fn F.lockstepref04_Size [] []))) [(.l 0)], (some (.l 1, false))⟩, ⟨.loc, .bin .gtr (.l 0) (i 512), (some (.l 2, false))⟩, w 9 (.pick (.l 3) (bo true) (.l 0))])
   (.cond (.s 9) (.seq (.reg [w 2 (.mv (bo false))])
   (.ret [f,f,t,f,f,f,f,f,f,f,f,f,f,f,f,f]))
   .skip))
   (.seq (.seq (.reg [w 3 (.mv (i 0))])
   (.block 0 lockstepref04_May_l2))
   (.seq (.reg [w 2 (.mv (bo true))])
   (.ret [f,f,t,f,f,f,f,f,f,f,f,f,f,f,f,f]))))) }
def k_lockstepref04_May : List Go.Tmp := [0, 1, 2, 3, 4, 5, 6, 7, 8, 41, 46, 58, 87, 92, 127, 146]
theorem c_lockstepref04_May : chkFun Go.Proofs.Tryz.prog (drawsOf Go.Proofs.Tryz.prog) k_lockstepref04_May Go.Proofs.Tryz.f47 a_lockstepref04_May = true := by kernel_rfl

def lockstepref11_shape_b0 : Go.A.Code :=
   (.seq (.seq (.reg [q (.mv (.s 8)), q (.fa 0 (.s 7)), q (.ld none (.l 0)), q (.len (.l 0)), w 12 (.bin .lss (.l 3) (.l 0))])
   (.cond (.s 12) .skip
   (.exit 2 [f,t,f,t,f,t,t,f,f,f,f,f,f,f] 3)))
   (.seq (.block 3 (.seq (.reg [q (.fa 0 (.s 7)), q (.ld none (.l 0)), q (.mv (.s 8)), q (.ia 4 (.l 1) (.l 0)), q (.fa 2 (.l 0)), q (.ld none (.l 0)), q (.fa 1 (.s 3)), q (.ld none (.l 0)), q (.mv (.s 6)), q (.ia 1 (.l 1) (.l 0)), q (.ld none (.l 0)), q (.call .cl (.c (.one (.fn F.lockstepref02_Ints [] []))) [(.l 5), (.l 0)]), q (.un .not (.l 0)), q (.mv (.l 0)), ⟨.loc, .fa 0 (.s 7), (some (.l 0, false))⟩, ⟨.loc, .ld none (.l 0), (some (.l 1, false))⟩, ⟨.loc, .mv (.s 8), (some (.l 2, false))⟩, ⟨.loc, .ia 4 (.l 1) (.l 0), (some (.l 3, false))⟩, ⟨.loc, .fa 3 (.l 0), (some (.l 4, false))⟩, ⟨.loc, .ld none (.l 0), (some (.l 5, false))⟩, ⟨.loc, .len (.l 0), (some (.l 6, false))⟩, ⟨.loc, .fa 1 (.s 3), (some (.l 7, false))⟩, ⟨.loc, .ld none (.l 0), (some (.l 8, false))⟩, ⟨.loc, .mv (.s 6), (some (.l 9, false))⟩, ⟨.loc, .ia 1 (.l 1) (.l 0), (some (.l 10, false))⟩, ⟨.loc, .ld none (.l 0), (some (.l 11, false))⟩, ⟨.loc, .len (.l 0), (some (.l 12, false))⟩, ⟨.loc, .bin .neq (.l 6) (.l 0), (some (.l 13, false))⟩, w 13 (.pick (.l 14) (bo true) (.l 0))])
   (.cond (.s 13) (.seq (.reg [w 2 (.mv (bo false))])
   (.ret [f,f,t,f,f,f,f,f,f,f,f,f,f,f]))
   .skip)))
   (.reg [q (.mv (.s 8)), q (.bin .add (.l 0) (i 1)), w 8 (.mv (.l 0))])))
def lockstepref11_shape_l0 : Go.A.Code := .loop [f,t,f,t,f,t,t,t,t,f,f,f,f,f] 3 lockstepref11_shape_b0
theorem lockstepref11_shape_l0_eq (T : Nat → Option Entry) (s : St) : exec T lockstepref11_shape_l0 s = (exec T lockstepref11_shape_b0 s).bind (loopK (exec T lockstepref11_shape_l0) [f,t,f,t,f,t,t,t,t,f,f,f,f,f] 3) := exec_loop T s _ _ _
def lockstepref11_shape_b1 : Go.A.Code :=
   (.seq (.seq (.reg [q (.mv (.s 6)), q (.fa 2 (.s 1)), q (.ld none (.l 0)), q (.len (.l 0)), w 10 (.bin .lss (.l 3) (.l 0))])
   (.cond (.s 10) .skip
   (.exit 0 [f,f,f,f,f,f,f,f,f,f,f,f,f,f] 2)))
   (.seq (.block 1 (.seq (.reg [q (.fa 2 (.s 1)), q (.ld none (.l 0)), q (.mv (.s 6)), q (.ia 5 (.l 1) (.l 0)), q (.ld (some 5) (.l 0)), w 7 (.al [.f (.sl []), .f (.sl []), .f (.lit (.int .i64 0)), .f (.lit (.int .i64 0)), .f (.sl [])] []), e (.st 5 (.s 7) (.l 1))])
   (.seq (.seq (.reg [q (.mv (.s 5)), q (.mv (.s 6)), q (.ia 1 (.l 1) (.l 0)), q (.ld none (.l 0)), q (.un .not (.l 0)), q (.mv (.l 0)), ⟨.loc, .fa 2 (.s 7), (some (.l 0, false))⟩, ⟨.loc, .fa 0 (.l 0), (some (.l 1, false))⟩, ⟨.loc, .ld none (.l 0), (some (.l 2, false))⟩, ⟨.loc, .bin .eql (.l 0) (i 1), (some (.l 3, false))⟩, ⟨.loc, .mv (.l 0), (some (.l 4, false))⟩, ⟨.loc, .fa 2 (.s 7), (some (.l 0, false))⟩, ⟨.loc, .fa 0 (.l 0), (some (.l 1, false))⟩, ⟨.loc, .ld none (.l 0), (some (.l 2, false))⟩, ⟨.loc, .bin .eql (.l 0) (i 3), (some (.l 3, false))⟩, ⟨.loc, .pick (.l 4) (bo true) (.l 0), (some (.l 9, false))⟩, ⟨.loc, .mv (.l 0), (some (.l 10, false))⟩, ⟨.loc, .fa 2 (.s 7), (some (.l 0, true))⟩, ⟨.loc, .fa 1 (.l 0), (some (.l 1, true))⟩, ⟨.loc, .ld none (.l 0), (some (.l 2, true))⟩, ⟨.loc, .bin .neq (.l 0) (i 0), (some (.l 3, true))⟩, ⟨.loc, .pick (.l 4) (.l 0) (bo false), (some (.l 15, false))⟩, w 11 (.pick (.l 16) (bo true) (.l 0))])
   (.cond (.s 11) (.seq (.reg [w 2 (.mv (bo false))])
   (.ret [f,f,t,f,f,f,f,f,f,f,f,f,f,f]))
   .skip))
   (.seq (.reg [w 8 (.mv (i 0))])
   (.block 2 lockstepref11_shape_l0)))))
   (.reg [q (.mv (.s 6)), q (.bin .add (.l 0) (i 1)), w 6 (.mv (.l 0))])))
def lockstepref11_shape_l1 : Go.A.Code := .loop [f,t,f,t,f,t,t,f,f,f,f,f,f,f] 2 lockstepref11_shape_b1
theorem lockstepref11_shape_l1_eq (T : Nat → Option Entry) (s : St) : exec T lockstepref11_shape_l1 s = (exec T lockstepref11_shape_b1 s).bind (loopK (exec T lockstepref11_shape_l1) [f,t,f,t,f,t,t,f,f,f,f,f,f,f] 2) := exec_loop T s _ _ _
/-- lockstep/lockstepref11.shape -/
def a_lockstepref11_shape : Fun := { np := 1, nslots := 14, keep := 0, raw := false, results := [(2, none)], body :=
   (.seq (.reg [w 1 (.box 3 (.s 0)), w 2 (.mv (bo false))])
   (.seq (.reg [q (.ld (some 3) (.s 1)), q (.call .cl (.c (.one (.fn F.lockstepref06_Of [] []))) [(.l 0)]), q (.mv (.l 0)), q (.ext (.l 0) 0), q (.ext (.l 1) 1), w 3 (.al [.f (.sl []), .f (.sl [])] []), e (.st 2 (.s 3) (.l 2)), w 4 (.mv (.l 2))])
   (.seq (.seq (.reg [q (.mv (.s 4)), w 9 (.bin .neq (.l 0) (i 0))])
   (.cond (.s 9) (.seq (.reg [w 2 (.mv (bo false))])
   (.ret [f,f,t,f,f,f,f,f,f,f,f,f,f,f]))
   .skip))
   (.seq (.reg [q (.ld (some 2) (.s 3)), q (.call .cl (.c (.one (.fn F.lockstepref06_Reach [] []))) [(.l 0), (i 0), (i (-1))]), w 5 (.mv (.l 0))])
   (.seq (.seq (.reg [w 6 (.mv (i 0))])
   (.block 0 lockstepref11_shape_l1))
   (.seq (.reg [w 2 (.mv (bo true))])
   (.ret [f,f,t,f,f,f,f,f,f,f,f,f,f,f]))))))) }
def k_lockstepref11_shape : List Go.Tmp := [0, 1, 2, 3, 4, 5, 6, 7, 8, 15, 22, 52, 57, 88]
theorem c_lockstepref11_shape : chkFun Go.Proofs.Tryz.prog (drawsOf Go.Proofs.Tryz.prog) k_lockstepref11_shape Go.Proofs.Tryz.f48 a_lockstepref11_shape = true := by kernel_rfl

def lockstepref11_typed_b0 : Go.A.Code :=
   (.seq (.seq (.reg [q (.mv (.s 4)), q (.fa 0 (.s 2)), q (.ld none (.l 0)), q (.len (.l 0)), w 10 (.bin .lss (.l 3) (.l 0))])
   (.cond (.s 10) .skip
   (.exit 0 [f,t,t,f,f,f,f,f,f,f,f,f,f,f,f,f,f,f,f] 1)))
   (.seq (.block 1 (.seq (.reg [q (.fa 0 (.s 2)), q (.ld none (.l 0)), q (.mv (.s 4)), q (.ia 1 (.l 1) (.l 0)), q (.ld none (.l 0)), q (.call .cl (.c (.one (.fn F.lockstepref01_May [] []))) [(.l 0)]), w 11 (.un .not (.l 0))])
   (.cond (.s 11) (.seq (.reg [w 3 (.mv (bo false))])
   (.ret [f,f,f,t,f,f,f,f,f,f,f,f,f,f,f,f,f,f,f]))
   .skip)))
   (.reg [q (.mv (.s 4)), q (.bin .add (.l 0) (i 1)), w 4 (.mv (.l 0))])))
def lockstepref11_typed_l0 : Go.A.Code := .loop [f,t,t,f,t,f,f,f,f,f,f,f,f,f,f,f,f,f,f] 1 lockstepref11_typed_b0
theorem lockstepref11_typed_l0_eq (T : Nat → Option Entry) (s : St) : exec T lockstepref11_typed_l0 s = (exec T lockstepref11_typed_b0 s).bind (loopK (exec T lockstepref11_typed_l0) [f,t,t,f,t,f,f,f,f,f,f,f,f,f,f,f,f,f,f] 1) := exec_loop T s _ _ _
def lockstepref11_typed_b1 : Go.A.Code :=
   (.seq (.seq (.reg [q (.mv (.s 6)), q (.fa 2 (.s 2)), q (.ld none (.l 0)), q (.mv (.s 5)), q (.ia 5 (.l 1) (.l 0)), q (.fa 0 (.l 0)), q (.ld none (.l 0)), q (.len (.l 0)), w 13 (.bin .lss (.l 7) (.l 0))])
   (.cond (.s 13) .skip
   (.exit 4 [f,t,t,f,f,t,f,f,f,f,f,f,f,f,f,f,f,f,f] 1)))
   (.seq (.block 5 (.seq (.reg [q (.fa 2 (.s 2)), q (.ld none (.l 0)), q (.mv (.s 5)), q (.ia 5 (.l 1) (.l 0)), q (.fa 0 (.l 0)), q (.ld none (.l 0)), q (.mv (.s 6)), q (.ia 4 (.l 1) (.l 0)), q (.fa 0 (.l 0)), q (.ld none (.l 0)), q (.call .cl (.c (.one (.fn F.lockstepref01_May [] []))) [(.l 0)]), w 14 (.un .not (.l 0))])
   (.cond (.s 14) (.seq (.reg [w 3 (.mv (bo false))])
   (.ret [f,f,f,t,f,f,f,f,f,f,f,f,f,f,f,f,f,f,f]))
   .skip)))
   (.reg [q (.mv (.s 6)), q (.bin .add (.l 0) (i 1)), w 6 (.mv (.l 0))])))
def lockstepref11_typed_l1 : Go.A.Code := .loop [f,t,t,f,f,t,t,f,f,f,f,f,f,f,f,f,f,f,f] 1 lockstepref11_typed_b1
theorem lockstepref11_typed_l1_eq (T : Nat → Option Entry) (s : St) : exec T lockstepref11_typed_l1 s = (exec T lockstepref11_typed_b1 s).bind (loopK (exec T lockstepref11_typed_l1) [f,t,t,f,f,t,t,f,f,f,f,f,f,f,f,f,f,f,f] 1) := exec_loop T s _ _ _
def lockstepref11_typed_b2 : Go.A.Code :=
   (.seq (.seq (.reg [q (.mv (.s 7)), q (.fa 2 (.s 2)), q (.ld none (.l 0)), q (.mv (.s 5)), q (.ia 5 (.l 1) (.l 0)), q (.fa 1 (.l 0)), q (.ld none (.l 0)), q (.len (.l 0)), w 15 (.bin .lss (.l 7) (.l 0))])
   (.cond (.s 15) .skip
   (.exit 6 [f,t,t,f,f,t,f,f,f,f,f,f,f,f,f,f,f,f,f] 1)))
   (.seq (.block 7 (.seq (.reg [q (.fa 2 (.s 2)), q (.ld none (.l 0)), q (.mv (.s 5)), q (.ia 5 (.l 1) (.l 0)), q (.fa 1 (.l 0)), q (.ld none (.l 0)), q (.mv (.s 7)), q (.ia 6 (.l 1) (.l 0)), q (.ld (some 6) (.l 0)), w 8 (.al [.f (.lit (.int .i64 0)), .f (.lit (.int .i64 0)), .f (.lit (.int .i64 0)), .f (.lit (.int .i64 0)), .f (.sl []), .f (.lit (.int .u64 0))] []), e (.st 6 (.s 8) (.l 1))])
   (.seq (.reg [w 9 (.mv (i 22))])
   (.seq (.seq (.reg [q (.mv (.s 1)), w 16 (.bin .eql (.l 0) (i 1))])
   (.cond (.s 16) (.reg [w 9 (.mv (i 20))])
   .skip))
   (.seq (.seq (.reg [q (.mv (.s 1)), w 17 (.bin .eql (.l 0) (i 0))])
   (.cond (.s 17) (.reg [w 9 (.mv (i 17))])
   .skip))
   (.seq (.reg [q (.ld (some 6) (.s 8)), q (.call .cl (.c (.one (.fn F.lockstepref03_May [] []))) [(.l 0)]), q (.un .not (.l 0)), q (.mv (.l 0)), ⟨.loc, .fa 0 (.s 8), (some (.l 0, false))⟩, ⟨.loc, .ld none (.l 0), (some (.l 1, false))⟩, ⟨.loc, .mv (.s 9), (some (.l 2, false))⟩, ⟨.loc, .bin .gtr (.l 1) (.l 0), (some (.l 3, false))⟩, q (.pick (.l 4) (bo true) (.l 0)), q (.mv (.l 0)), ⟨.loc, .mv (.s 1), (some (.l 0, false))⟩, ⟨.loc, .bin .lss (.l 0) (i 2), (some (.l 1, false))⟩, ⟨.loc, .mv (.l 0), (some (.l 2, false))⟩, ⟨.loc, .fa 2 (.s 8), (some (.l 0, true))⟩, ⟨.loc, .ld none (.l 0), (some (.l 1, true))⟩, ⟨.loc, .bin .gtr (.l 0) (i 1), (some (.l 2, true))⟩, ⟨.loc, .pick (.l 3) (.l 0) (bo false), (some (.l 6, false))⟩, w 18 (.pick (.l 7) (bo true) (.l 0))])
   (.cond (.s 18) (.seq (.reg [w 3 (.mv (bo false))])
   (.ret [f,f,f,t,f,f,f,f,f,f,f,f,f,f,f,f,f,f,f]))
   .skip)))))))
   (.reg [q (.mv (.s 7)), q (.bin .add (.l 0) (i 1)), w 7 (.mv (.l 0))])))
def lockstepref11_typed_l2 : Go.A.Code := .loop [f,t,t,f,f,t,f,t,f,f,f,f,f,f,f,f,f,f,f] 1 lockstepref11_typed_b2
theorem lockstepref11_typed_l2_eq (T : Nat → Option Entry) (s : St) : exec T lockstepref11_typed_l2 s = (exec T lockstepref11_typed_b2 s).bind (loopK (exec T lockstepref11_typed_l2) [f,t,t,f,f,t,f,t,f,f,f,f,f,f,f,f,f,f,f] 1) := exec_loop T s _ _ _
def lockstepref11_typed_b3 : Go.A.Code :=
   (.seq (.seq (.reg [q (.mv (.s 5)), q (.fa 2 (.s 2)), q (.ld none (.l 0)), q (.len (.l 0)), w 12 (.bin .lss (.l 3) (.l 0))])
   (.cond (.s 12) .skip
   (.exit 2 [f,f,t,f,f,f,f,f,f,f,f,f,f,f,f,f,f,f,f] 1)))
   (.seq (.block 3 (.seq (.seq (.reg [w 6 (.mv (i 0))])
   (.block 4 lockstepref11_typed_l1))
   (.seq (.reg [w 7 (.mv (i 0))])
   (.block 6 lockstepref11_typed_l2))))
   (.reg [q (.mv (.s 5)), q (.bin .add (.l 0) (i 1)), w 5 (.mv (.l 0))])))
def lockstepref11_typed_l3 : Go.A.Code := .loop [f,t,t,f,f,t,f,f,f,f,f,f,f,f,f,f,f,f,f] 1 lockstepref11_typed_b3
theorem lockstepref11_typed_l3_eq (T : Nat → Option Entry) (s : St) : exec T lockstepref11_typed_l3 s = (exec T lockstepref11_typed_b3 s).bind (loopK (exec T lockstepref11_typed_l3) [f,t,t,f,f,t,f,f,f,f,f,f,f,f,f,f,f,f,f] 1) := exec_loop T s _ _ _
/-- lockstep/lockstepref11.typed -/
def a_lockstepref11_typed : Fun := { np := 2, nslots := 19, keep := 0, raw := false, results := [(3, none)], body :=
   (.seq (.reg [w 2 (.box 3 (.s 0)), w 3 (.mv (bo false))])
   (.seq (.seq (.reg [w 4 (.mv (i 0))])
   (.block 0 lockstepref11_typed_l0))
   (.seq (.seq (.reg [w 5 (.mv (i 0))])
   (.block 2 lockstepref11_typed_l3))
   (.seq (.reg [q (.fa 1 (.s 2)), q (.ld none (.l 0)), q (.call .cl (.c (.one (.fn F.lockstepref01_May [] []))) [(.l 0)]), w 3 (.mv (.l 0))])
   (.ret [f,f,f,t,f,f,f,f,f,f,f,f,f,f,f,f,f,f,f]))))) }
def k_lockstepref11_typed : List Go.Tmp := [0, 1, 2, 4, 5, 6, 7, 8, 9, 10, 15, 24, 29, 40, 54, 63, 76, 78, 96]
theorem c_lockstepref11_typed : chkFun Go.Proofs.Tryz.prog (drawsOf Go.Proofs.Tryz.prog) k_lockstepref11_typed Go.Proofs.Tryz.f49 a_lockstepref11_typed = true := by kernel_rfl

def lockstepref11_Defs_b0 : Go.A.Code :=
   (.seq (.seq (.reg [q (.mv (.s 4)), q (.fa 0 (.s 1)), q (.ld none (.l 0)), q (.len (.l 0)), w 11 (.bin .lss (.l 3) (.l 0))])
   (.cond (.s 11) .skip
   (.exit 0 [f,t,f,t,f,f,f,f,f,f,f,f,f,f,f,f] 2)))
   (.seq (.block 1 (.reg [q (.mv (.s 3)), q (.mv (.s 4)), q (.bin .add (.l 0) (i 1)), q (.fa 0 (.s 1)), q (.ld none (.l 0)), q (.mv (.s 4)), q (.ia 1 (.l 1) (.l 0)), q (.ld none (.l 0)), q (.bld [.f (.lit (.int .i64 0)), .f (.lit (.int .i64 0))] [(0, 1, (.l 0)), (1, 1, (i 1))] []), q (.bld [.f (.lit (.int .i64 0)), .f (.lit (.int .i64 0)), .f (.lit (.int .i64 0)), .f (.lit (.int .i64 0)), .f (.lit (.int .i64 0))] [(0, 1, (.l 6)), (1, 1, (i (-1))), (3, 2, (.l 0))] []), q (.bsl .fz 5 [[.f (.lit (.int .i64 0)), .f (.lit (.int .i64 0)), .f (.lit (.int .i64 0)), .f (.lit (.int .i64 0)), .f (.lit (.int .i64 0))]] [(0, (.l 0))]), q (.app 5 (.l 10) (.l 0)), w 3 (.mv (.l 0))]))
   (.reg [q (.mv (.s 4)), q (.bin .add (.l 0) (i 1)), w 4 (.mv (.l 0))])))
def lockstepref11_Defs_l0 : Go.A.Code := .loop [f,t,f,t,t,f,f,f,f,f,f,f,f,f,f,f] 2 lockstepref11_Defs_b0
theorem lockstepref11_Defs_l0_eq (T : Nat → Option Entry) (s : St) : exec T lockstepref11_Defs_l0 s = (exec T lockstepref11_Defs_b0 s).bind (loopK (exec T lockstepref11_Defs_l0) [f,t,f,t,t,f,f,f,f,f,f,f,f,f,f,f] 2) := exec_loop T s _ _ _
def lockstepref11_Defs_b1 : Go.A.Code :=
   (.seq (.seq (.reg [q (.mv (.s 7)), q (.fa 0 (.s 6)), q (.ld none (.l 0)), q (.len (.l 0)), w 13 (.bin .lss (.l 3) (.l 0))])
   (.cond (.s 13) .skip
   (.exit 4 [f,t,f,t,f,t,t,f,f,f,f,f,f,f,f,f] 3)))
   (.seq (.block 5 (.reg [q (.mv (.s 3)), q (.fa 0 (.s 6)), q (.ld none (.l 0)), q (.mv (.s 7)), q (.ia 4 (.l 1) (.l 0)), q (.fa 1 (.l 0)), q (.ld none (.l 0)), q (.mv (.s 5)), q (.fa 0 (.s 6)), q (.ld none (.l 0)), q (.mv (.s 7)), q (.ia 4 (.l 1) (.l 0)), q (.fa 0 (.l 0)), q (.ld none (.l 0)), q (.bld [.f (.lit (.int .i64 0)), .f (.lit (.int .i64 0))] [(0, 1, (.l 0)), (1, 1, (i 1))] []), q (.bld [.f (.lit (.int .i64 0)), .f (.lit (.int .i64 0)), .f (.lit (.int .i64 0)), .f (.lit (.int .i64 0)), .f (.lit (.int .i64 0))] [(0, 1, (.l 8)), (1, 1, (.l 7)), (2, 1, (i (-1))), (3, 2, (.l 0))] []), q (.bsl .fz 5 [[.f (.lit (.int .i64 0)), .f (.lit (.int .i64 0)), .f (.lit (.int .i64 0)), .f (.lit (.int .i64 0)), .f (.lit (.int .i64 0))]] [(0, (.l 0))]), q (.app 5 (.l 16) (.l 0)), w 3 (.mv (.l 0))]))
   (.reg [q (.mv (.s 7)), q (.bin .add (.l 0) (i 1)), w 7 (.mv (.l 0))])))
def lockstepref11_Defs_l1 : Go.A.Code := .loop [f,t,f,t,f,t,t,t,f,f,f,f,f,f,f,f] 3 lockstepref11_Defs_b1
theorem lockstepref11_Defs_l1_eq (T : Nat → Option Entry) (s : St) : exec T lockstepref11_Defs_l1 s = (exec T lockstepref11_Defs_b1 s).bind (loopK (exec T lockstepref11_Defs_l1) [f,t,f,t,f,t,t,t,f,f,f,f,f,f,f,f] 3) := exec_loop T s _ _ _
def lockstepref11_Defs_b2 : Go.A.Code :=
   (.seq (.seq (.reg [q (.mv (.s 8)), q (.fa 1 (.s 6)), q (.ld none (.l 0)), q (.len (.l 0)), w 14 (.bin .lss (.l 3) (.l 0))])
   (.cond (.s 14) .skip
   (.exit 6 [f,t,f,t,f,t,f,f,f,f,f,f,f,f,f,f] 3)))
   (.seq (.block 7 (.seq (.reg [q (.fa 1 (.s 6)), q (.ld none (.l 0)), q (.mv (.s 8)), q (.ia 6 (.l 1) (.l 0)), q (.ld (some 6) (.l 0)), q (.call .cl (.c (.one (.fn F.lockstepref03_Gives [] []))) [(.l 0)]), q (.mv (.l 0)), q (.ext (.l 0) 0), q (.ext (.l 1) 1), w 9 (.mv (.l 1)), w 10 (.mv (.l 1))])
   (.seq (.reg [q (.mv (.s 9)), w 15 (.bin .gtr (.l 0) (i 0))])
   (.cond (.s 15) (.reg [q (.mv (.s 3)), q (.fa 1 (.s 6)), q (.ld none (.l 0)), q (.mv (.s 8)), q (.ia 6 (.l 1) (.l 0)), q (.fa 3 (.l 0)), q (.ld none (.l 0)), q (.mv (.s 5)), q (.mv (.s 8)), q (.mv (.s 9)), q (.mv (.s 10)), q (.bld [.f (.lit (.int .i64 0)), .f (.lit (.int .i64 0))] [(0, 1, (.l 1)), (1, 1, (.l 0))] []), q (.bld [.f (.lit (.int .i64 0)), .f (.lit (.int .i64 0)), .f (.lit (.int .i64 0)), .f (.lit (.int .i64 0)), .f (.lit (.int .i64 0))] [(0, 1, (.l 5)), (1, 1, (.l 4)), (2, 1, (.l 3)), (3, 2, (.l 0))] []), q (.bsl .fz 5 [[.f (.lit (.int .i64 0)), .f (.lit (.int .i64 0)), .f (.lit (.int .i64 0)), .f (.lit (.int .i64 0)), .f (.lit (.int .i64 0))]] [(0, (.l 0))]), q (.app 5 (.l 13) (.l 0)), w 3 (.mv (.l 0))])
   .skip))))
   (.reg [q (.mv (.s 8)), q (.bin .add (.l 0) (i 1)), w 8 (.mv (.l 0))])))
def lockstepref11_Defs_l2 : Go.A.Code := .loop [f,t,f,t,f,t,t,f,t,f,f,f,f,f,f,f] 3 lockstepref11_Defs_b2
theorem lockstepref11_Defs_l2_eq (T : Nat → Option Entry) (s : St) : exec T lockstepref11_Defs_l2 s = (exec T lockstepref11_Defs_b2 s).bind (loopK (exec T lockstepref11_Defs_l2) [f,t,f,t,f,t,t,f,t,f,f,f,f,f,f,f] 3) := exec_loop T s _ _ _
def lockstepref11_Defs_b3 : Go.A.Code :=
   (.seq (.seq (.reg [q (.mv (.s 5)), q (.fa 2 (.s 1)), q (.ld none (.l 0)), q (.len (.l 0)), w 12 (.bin .lss (.l 3) (.l 0))])
   (.cond (.s 12) .skip
   (.exit 2 [f,f,f,t,f,f,f,f,f,f,f,f,f,f,f,f] 2)))
   (.seq (.block 3 (.seq (.reg [q (.fa 2 (.s 1)), q (.ld none (.l 0)), q (.mv (.s 5)), q (.ia 5 (.l 1) (.l 0)), q (.ld (some 5) (.l 0)), w 6 (.al [.f (.sl []), .f (.sl []), .f (.lit (.int .i64 0)), .f (.lit (.int .i64 0)), .f (.sl [])] []), e (.st 5 (.s 6) (.l 1))])
   (.seq (.seq (.reg [w 7 (.mv (i 0))])
   (.block 4 lockstepref11_Defs_l1))
   (.seq (.reg [w 8 (.mv (i 0))])
   (.block 6 lockstepref11_Defs_l2)))))
   (.reg [q (.mv (.s 5)), q (.bin .add (.l 0) (i 1)), w 5 (.mv (.l 0))])))
def lockstepref11_Defs_l3 : Go.A.Code := .loop [f,t,f,t,f,t,f,f,f,f,f,f,f,f,f,f] 2 lockstepref11_Defs_b3
theorem lockstepref11_Defs_l3_eq (T : Nat → Option Entry) (s : St) : exec T lockstepref11_Defs_l3 s = (exec T lockstepref11_Defs_b3 s).bind (loopK (exec T lockstepref11_Defs_l3) [f,t,f,t,f,t,f,f,f,f,f,f,f,f,f,f] 2) := exec_loop T s _ _ _
/-- lockstep/lockstepref11.Defs -/
def a_lockstepref11_Defs : Fun := { np := 1, nslots := 16, keep := 0, raw := false, results := [(2, none)], body :=
   (.seq (.reg [w 1 (.box 3 (.s 0)), w 2 (.mv (.c (.one (.f (.sl [])))))])
   (.seq (.reg [w 3 (.nl .tk 5)])
   (.seq (.seq (.reg [w 4 (.mv (i 0))])
   (.block 0 lockstepref11_Defs_l0))
   (.seq (.seq (.reg [w 5 (.mv (i 0))])
   (.block 2 lockstepref11_Defs_l3))
   (.seq (.reg [q (.mv (.s 3)), w 2 (.mv (.l 0))])
   (.ret [f,f,t,f,f,f,f,f,f,f,f,f,f,f,f,f])))))) }
def k_lockstepref11_Defs : List Go.Tmp := [0, 1, 2, 3, 4, 5, 6, 7, 8, 9, 10, 15, 34, 46, 71, 84]
theorem c_lockstepref11_Defs : chkFun Go.Proofs.Tryz.prog (drawsOf Go.Proofs.Tryz.prog) k_lockstepref11_Defs Go.Proofs.Tryz.f50 a_lockstepref11_Defs = true := by kernel_rfl

/-- lockstep/lockstepref03.Value -/
def a_lockstepref03_Value : Fun := { np := 1, nslots := 2, keep := 0, raw := false, results := [(1, none)], body :=
   (.seq (.reg [w 1 (.mv (bo false))])
   (.seq (.reg [q (.mv (.s 0)), q (.bin .gtr (.l 0) (i 0)), q (.mv (.l 0)), ⟨.loc, .mv (.s 0), (some (.l 0, true))⟩, ⟨.loc, .bin .lss (.l 0) (i 1024), (some (.l 1, true))⟩, q (.pick (.l 2) (.l 0) (bo false)), w 1 (.mv (.l 0))])
   (.ret [f,t]))) }
def k_lockstepref03_Value : List Go.Tmp := [0, 2]
theorem c_lockstepref03_Value : chkFun Go.Proofs.Tryz.prog (drawsOf Go.Proofs.Tryz.prog) k_lockstepref03_Value Go.Proofs.Tryz.f51 a_lockstepref03_Value = true := by kernel_rfl

def lockstepref11_Find_b0 : Go.A.Code :=
   (.seq (.seq (.reg [q (.mv (.s 3)), q (.mv (.s 0)), q (.len (.l 0)), w 4 (.bin .lss (.l 2) (.l 0))])
   (.cond (.s 4) .skip
   (.exit 0 [f,f,f,f,f,f] 0)))
   (.seq (.block 1 (.seq (.reg [q (.mv (.s 0)), q (.mv (.s 3)), q (.ia 5 (.l 1) (.l 0)), q (.fa 0 (.l 0)), q (.ld none (.l 0)), q (.mv (.s 1)), w 5 (.bin .eql (.l 1) (.l 0))])
   (.cond (.s 5) (.seq (.reg [q (.mv (.s 3)), w 2 (.mv (.l 0))])
   (.ret [f,f,t,f,f,f]))
   .skip)))
   (.reg [q (.mv (.s 3)), q (.bin .add (.l 0) (i 1)), w 3 (.mv (.l 0))])))
def lockstepref11_Find_l0 : Go.A.Code := .loop [t,t,f,t,f,f] 0 lockstepref11_Find_b0
theorem lockstepref11_Find_l0_eq (T : Nat → Option Entry) (s : St) : exec T lockstepref11_Find_l0 s = (exec T lockstepref11_Find_b0 s).bind (loopK (exec T lockstepref11_Find_l0) [t,t,f,t,f,f] 0) := exec_loop T s _ _ _
/-- lockstep/lockstepref11.Find -/
def a_lockstepref11_Find : Fun := { np := 2, nslots := 6, keep := 0, raw := false, results := [(2, none)], body :=
   (.seq (.reg [w 2 (.mv (i 0))])
   (.seq (.seq (.reg [w 3 (.mv (i 0))])
   (.block 0 lockstepref11_Find_l0))
   (.seq (.reg [w 2 (.mv (i (-1)))])
   (.ret [f,f,t,f,f,f])))) }
def k_lockstepref11_Find : List Go.Tmp := [0, 1, 4, 5, 9, 18]
theorem c_lockstepref11_Find : chkFun Go.Proofs.Tryz.prog (drawsOf Go.Proofs.Tryz.prog) k_lockstepref11_Find Go.Proofs.Tryz.f52 a_lockstepref11_Find = true := by kernel_rfl

def lockstepref11_Uses_b0 : Go.A.Code :=
   (.seq (.seq (.reg [q (.mv (.s 8)), q (.fa 3 (.s 7)), q (.ld none (.l 0)), q (.len (.l 0)), w 14 (.bin .lss (.l 3) (.l 0))])
   (.cond (.s 14) .skip
   (.exit 4 [f,t,f,t,t,t,t,f,f,f,f,f,f,f,f,f,f,f,f] 4)))
   (.seq (.block 5 (.reg [q (.mv (.s 3)), q (.fa 3 (.s 7)), q (.ld none (.l 0)), q (.mv (.s 8)), q (.ia 1 (.l 1) (.l 0)), q (.ld none (.l 0)), q (.fa 2 (.s 7)), q (.ld none (.l 0)), q (.mv (.s 8)), q (.ia 1 (.l 1) (.l 0)), q (.ld none (.l 0)), q (.fa 0 (.s 7)), q (.ld none (.l 0)), q (.bld [.f (.lit (.int .i64 0)), .f (.lit (.int .i64 0))] [(0, 1, (.l 0)), (1, 1, (i 1))] []), q (.bld [.f (.lit (.int .i64 0)), .f (.lit (.int .i64 0)), .f (.lit (.int .i64 0)), .f (.lit (.int .i64 0)), .f (.lit (.int .i64 0))] [(0, 1, (.l 8)), (1, 1, (.l 3)), (2, 1, (i 1000)), (3, 2, (.l 0))] []), q (.bsl .fz 5 [[.f (.lit (.int .i64 0)), .f (.lit (.int .i64 0)), .f (.lit (.int .i64 0)), .f (.lit (.int .i64 0)), .f (.lit (.int .i64 0))]] [(0, (.l 0))]), q (.app 5 (.l 15) (.l 0)), w 3 (.mv (.l 0))]))
   (.reg [q (.mv (.s 8)), q (.bin .add (.l 0) (i 1)), w 8 (.mv (.l 0))])))
def lockstepref11_Uses_l0 : Go.A.Code := .loop [f,t,f,t,t,t,t,t,t,f,f,f,f,f,f,f,f,f,f] 4 lockstepref11_Uses_b0
theorem lockstepref11_Uses_l0_eq (T : Nat → Option Entry) (s : St) : exec T lockstepref11_Uses_l0 s = (exec T lockstepref11_Uses_b0 s).bind (loopK (exec T lockstepref11_Uses_l0) [f,t,f,t,t,t,t,t,t,f,f,f,f,f,f,f,f,f,f] 4) := exec_loop T s _ _ _
def lockstepref11_Uses_b1 : Go.A.Code :=
   (.seq (.seq (.reg [q (.mv (.s 6)), q (.fa 0 (.s 5)), q (.ld none (.l 0)), q (.len (.l 0)), w 13 (.bin .lss (.l 3) (.l 0))])
   (.cond (.s 13) .skip
   (.exit 2 [f,t,f,t,t,t,f,f,f,f,f,f,f,f,f,f,f,f,f] 3)))
   (.seq (.block 3 (.seq (.reg [q (.fa 0 (.s 5)), q (.ld none (.l 0)), q (.mv (.s 6)), q (.ia 4 (.l 1) (.l 0)), q (.ld (some 4) (.l 0)), w 7 (.al [.f (.lit (.int .i64 0)), .f (.lit (.int .i64 0)), .f (.sl []), .f (.sl [])] []), e (.st 4 (.s 7) (.l 1))])
   (.seq (.reg [w 8 (.mv (i 0))])
   (.block 4 lockstepref11_Uses_l0))))
   (.reg [q (.mv (.s 6)), q (.bin .add (.l 0) (i 1)), w 6 (.mv (.l 0))])))
def lockstepref11_Uses_l1 : Go.A.Code := .loop [f,t,f,t,t,t,t,f,f,f,f,f,f,f,f,f,f,f,f] 3 lockstepref11_Uses_b1
theorem lockstepref11_Uses_l1_eq (T : Nat → Option Entry) (s : St) : exec T lockstepref11_Uses_l1 s = (exec T lockstepref11_Uses_b1 s).bind (loopK (exec T lockstepref11_Uses_l1) [f,t,f,t,t,t,t,f,f,f,f,f,f,f,f,f,f,f,f] 3) := exec_loop T s _ _ _
def lockstepref11_Uses_b2 : Go.A.Code :=
   (.seq (.seq (.reg [q (.mv (.s 11)), q (.mv (.s 10)), q (.len (.l 0)), w 16 (.bin .lss (.l 2) (.l 0))])
   (.cond (.s 16) .skip
   (.exit 8 [f,t,f,t,t,t,f,f,f,t,f,f,f,f,f,f,f,f,f] 3)))
   (.seq (.block 9 (.reg [q (.mv (.s 3)), q (.fa 1 (.s 5)), q (.ld none (.l 0)), q (.mv (.s 9)), q (.ia 6 (.l 1) (.l 0)), q (.fa 4 (.l 0)), q (.ld none (.l 0)), q (.mv (.s 11)), q (.ia 1 (.l 1) (.l 0)), q (.ld none (.l 0)), q (.mv (.s 4)), q (.mv (.s 9)), q (.mv (.s 10)), q (.mv (.s 11)), q (.ia 2 (.l 1) (.l 0)), q (.ld (some 2) (.l 0)), q (.bld [.f (.lit (.int .i64 0)), .f (.lit (.int .i64 0)), .f (.lit (.int .i64 0)), .f (.lit (.int .i64 0)), .f (.lit (.int .i64 0))] [(0, 1, (.l 6)), (1, 1, (.l 5)), (2, 1, (.l 4)), (3, 2, (.l 0))] []), q (.bsl .fz 5 [[.f (.lit (.int .i64 0)), .f (.lit (.int .i64 0)), .f (.lit (.int .i64 0)), .f (.lit (.int .i64 0)), .f (.lit (.int .i64 0))]] [(0, (.l 0))]), q (.app 5 (.l 17) (.l 0)), w 3 (.mv (.l 0))]))
   (.reg [q (.mv (.s 11)), q (.bin .add (.l 0) (i 1)), w 11 (.mv (.l 0))])))
def lockstepref11_Uses_l2 : Go.A.Code := .loop [f,t,f,t,t,t,f,f,f,t,t,t,f,f,f,f,f,f,f] 3 lockstepref11_Uses_b2
theorem lockstepref11_Uses_l2_eq (T : Nat → Option Entry) (s : St) : exec T lockstepref11_Uses_l2 s = (exec T lockstepref11_Uses_b2 s).bind (loopK (exec T lockstepref11_Uses_l2) [f,t,f,t,t,t,f,f,f,t,t,t,f,f,f,f,f,f,f] 3) := exec_loop T s _ _ _
def lockstepref11_Uses_b3 : Go.A.Code :=
   (.seq (.seq (.reg [q (.mv (.s 9)), q (.fa 1 (.s 5)), q (.ld none (.l 0)), q (.len (.l 0)), w 15 (.bin .lss (.l 3) (.l 0))])
   (.cond (.s 15) .skip
   (.exit 6 [f,t,f,t,t,t,f,f,f,f,f,f,f,f,f,f,f,f,f] 3)))
   (.seq (.block 7 (.seq (.reg [q (.fa 1 (.s 5)), q (.ld none (.l 0)), q (.mv (.s 9)), q (.ia 6 (.l 1) (.l 0)), q (.ld (some 6) (.l 0)), q (.call .cl (.c (.one (.fn F.lockstepref03_Takes [] []))) [(.l 0)]), w 10 (.mv (.l 0))])
   (.seq (.reg [w 11 (.mv (i 0))])
   (.block 8 lockstepref11_Uses_l2))))
   (.reg [q (.mv (.s 9)), q (.bin .add (.l 0) (i 1)), w 9 (.mv (.l 0))])))
def lockstepref11_Uses_l3 : Go.A.Code := .loop [f,t,f,t,t,t,f,f,f,t,f,f,f,f,f,f,f,f,f] 3 lockstepref11_Uses_b3
theorem lockstepref11_Uses_l3_eq (T : Nat → Option Entry) (s : St) : exec T lockstepref11_Uses_l3 s = (exec T lockstepref11_Uses_b3 s).bind (loopK (exec T lockstepref11_Uses_l3) [f,t,f,t,t,t,f,f,f,t,f,f,f,f,f,f,f,f,f] 3) := exec_loop T s _ _ _
def lockstepref11_Uses_b4 : Go.A.Code :=
   (.seq (.seq (.reg [q (.mv (.s 4)), q (.fa 2 (.s 1)), q (.ld none (.l 0)), q (.len (.l 0)), w 12 (.bin .lss (.l 3) (.l 0))])
   (.cond (.s 12) .skip
   (.exit 0 [f,f,f,t,f,f,f,f,f,f,f,f,f,f,f,f,f,f,f] 2)))
   (.seq (.block 1 (.seq (.reg [q (.fa 2 (.s 1)), q (.ld none (.l 0)), q (.mv (.s 4)), q (.ia 5 (.l 1) (.l 0)), q (.ld (some 5) (.l 0)), w 5 (.al [.f (.sl []), .f (.sl []), .f (.lit (.int .i64 0)), .f (.lit (.int .i64 0)), .f (.sl [])] []), e (.st 5 (.s 5) (.l 1))])
   (.seq (.seq (.reg [w 6 (.mv (i 0))])
   (.block 2 lockstepref11_Uses_l1))
   (.seq (.seq (.reg [w 9 (.mv (i 0))])
   (.block 6 lockstepref11_Uses_l3))
   (.seq (.seq (.reg [q (.fa 2 (.s 5)), q (.fa 0 (.l 0)), q (.ld none (.l 0)), w 17 (.bin .eql (.l 0) (i 0))])
   (.cond (.s 17) (.reg [q (.mv (.s 3)), q (.fa 2 (.s 5)), q (.fa 1 (.l 0)), q (.ld none (.l 0)), q (.mv (.s 4)), q (.fa 1 (.s 1)), q (.ld none (.l 0)), q (.bld [.f (.lit (.int .i64 0)), .f (.lit (.int .i64 0))] [(0, 1, (.l 0)), (1, 1, (i 1))] []), q (.bld [.f (.lit (.int .i64 0)), .f (.lit (.int .i64 0)), .f (.lit (.int .i64 0)), .f (.lit (.int .i64 0)), .f (.lit (.int .i64 0))] [(0, 1, (.l 4)), (1, 1, (.l 3)), (2, 1, (i 1000)), (3, 2, (.l 0))] []), q (.bsl .fz 5 [[.f (.lit (.int .i64 0)), .f (.lit (.int .i64 0)), .f (.lit (.int .i64 0)), .f (.lit (.int .i64 0)), .f (.lit (.int .i64 0))]] [(0, (.l 0))]), q (.app 5 (.l 9) (.l 0)), w 3 (.mv (.l 0))])
   .skip))
   (.seq (.reg [q (.fa 2 (.s 5)), q (.fa 0 (.l 0)), q (.ld none (.l 0)), w 18 (.bin .eql (.l 0) (i 2))])
   (.cond (.s 18) (.reg [q (.mv (.s 3)), q (.fa 2 (.s 5)), q (.fa 1 (.l 0)), q (.ld none (.l 0)), q (.mv (.s 4)), q (.bld [.f (.lit (.int .i64 0)), .f (.lit (.int .i64 0))] [(0, 1, (i 1)), (1, 1, (i 1))] []), q (.bld [.f (.lit (.int .i64 0)), .f (.lit (.int .i64 0)), .f (.lit (.int .i64 0)), .f (.lit (.int .i64 0)), .f (.lit (.int .i64 0))] [(0, 1, (.l 2)), (1, 1, (.l 1)), (2, 1, (i 1000)), (3, 2, (.l 0))] []), q (.bsl .fz 5 [[.f (.lit (.int .i64 0)), .f (.lit (.int .i64 0)), .f (.lit (.int .i64 0)), .f (.lit (.int .i64 0)), .f (.lit (.int .i64 0))]] [(0, (.l 0))]), q (.app 5 (.l 7) (.l 0)), w 3 (.mv (.l 0))])
   .skip)))))))
   (.reg [q (.mv (.s 4)), q (.bin .add (.l 0) (i 1)), w 4 (.mv (.l 0))])))
def lockstepref11_Uses_l4 : Go.A.Code := .loop [f,t,f,t,t,f,f,f,f,f,f,f,f,f,f,f,f,f,f] 2 lockstepref11_Uses_b4
theorem lockstepref11_Uses_l4_eq (T : Nat → Option Entry) (s : St) : exec T lockstepref11_Uses_l4 s = (exec T lockstepref11_Uses_b4 s).bind (loopK (exec T lockstepref11_Uses_l4) [f,t,f,t,t,f,f,f,f,f,f,f,f,f,f,f,f,f,f] 2) := exec_loop T s _ _ _
/-- lockstep/lockstepref11.Uses -/
def a_lockstepref11_Uses : Fun := { np := 1, nslots := 19, keep := 0, raw := false, results := [(2, none)], body :=
   (.seq (.reg [w 1 (.box 3 (.s 0)), w 2 (.mv (.c (.one (.f (.sl [])))))])
   (.seq (.reg [w 3 (.nl .tk 5)])
   (.seq (.seq (.reg [w 4 (.mv (i 0))])
   (.block 0 lockstepref11_Uses_l4))
   (.seq (.reg [q (.mv (.s 3)), w 2 (.mv (.l 0))])
   (.ret [f,f,t,f,f,f,f,f,f,f,f,f,f,f,f,f,f,f,f]))))) }
def k_lockstepref11_Uses : List Go.Tmp := [0, 1, 2, 3, 4, 5, 6, 7, 8, 9, 10, 11, 16, 28, 40, 64, 76, 101, 116]
theorem c_lockstepref11_Uses : chkFun Go.Proofs.Tryz.prog (drawsOf Go.Proofs.Tryz.prog) k_lockstepref11_Uses Go.Proofs.Tryz.f53 a_lockstepref11_Uses = true := by kernel_rfl

def lockstepref06_Of_b0 : Go.A.Code :=
   (.seq (.seq (.reg [q (.mv (.s 9)), q (.fa 2 (.s 7)), q (.ld none (.l 0)), q (.len (.l 0)), w 14 (.bin .lss (.l 3) (.l 0))])
   (.cond (.s 14) .skip
   (.exit 2 [f,t,t,f,t,t,t,t,t,f,f,f,f,f,f,f,f,f] 5)))
   (.seq (.block 3 (.seq (.reg [q (.fa 2 (.s 7)), q (.ld none (.l 0)), q (.mv (.s 9)), q (.ia 1 (.l 1) (.l 0)), q (.ld none (.l 0)), q (.bin .leq (.l 0) (i 0)), q (.mv (.l 0)), ⟨.loc, .fa 2 (.s 7), (some (.l 0, false))⟩, ⟨.loc, .ld none (.l 0), (some (.l 1, false))⟩, ⟨.loc, .mv (.s 9), (some (.l 2, false))⟩, ⟨.loc, .ia 1 (.l 1) (.l 0), (some (.l 3, false))⟩, ⟨.loc, .ld none (.l 0), (some (.l 4, false))⟩, ⟨.loc, .mv (.s 4), (some (.l 5, false))⟩, ⟨.loc, .bin .geq (.l 1) (.l 0), (some (.l 6, false))⟩, w 15 (.pick (.l 7) (bo true) (.l 0))])
   (.cond (.s 15) (.seq (.reg [q (.bld [.f (.sl []), .f (.sl [])] [] []), e (.st 2 (.s 2) (.l 0)), w 3 (.mv (i 5))])
   (.ret [f,f,t,t,f,f,f,f,f,f,f,f,f,f,f,f,f,f]))
   .skip)))
   (.reg [q (.mv (.s 9)), q (.bin .add (.l 0) (i 1)), w 9 (.mv (.l 0))])))
def lockstepref06_Of_l0 : Go.A.Code := .loop [f,t,t,f,t,t,t,t,t,t,f,f,f,f,f,f,f,f] 5 lockstepref06_Of_b0
theorem lockstepref06_Of_l0_eq (T : Nat → Option Entry) (s : St) : exec T lockstepref06_Of_l0 s = (exec T lockstepref06_Of_b0 s).bind (loopK (exec T lockstepref06_Of_l0) [f,t,t,f,t,t,t,t,t,t,f,f,f,f,f,f,f,f] 5) := exec_loop T s _ _ _
def lockstepref06_Of_b1 : Go.A.Code :=
   (.seq (.seq (.reg [q (.mv (.s 10)), q (.mv (.s 4)), w 16 (.bin .lss (.l 1) (.l 0))])
   (.cond (.s 16) .skip
   (.exit 4 [f,t,t,f,t,t,t,f,t,f,f,f,f,f,f,f,f,f] 5)))
   (.seq (.block 5 (.seq (.reg [q (.fa 2 (.s 7)), q (.ld none (.l 0)), q (.mv (.s 10)), w 17 (.call .cl (.c (.one (.fn F.lockstepref06_Has [] []))) [(.l 1), (.l 0)])])
   (.cond (.s 17) (.reg [q (.mv (.s 8)), q (.mv (.s 10)), q (.bsl .fz 1 [[.f (.lit (.int .i64 0))]] [(0, (.l 0))]), q (.app 1 (.l 2) (.l 0)), w 8 (.mv (.l 0))])
   .skip)))
   (.reg [q (.mv (.s 10)), q (.bin .add (.l 0) (i 1)), w 10 (.mv (.l 0))])))
def lockstepref06_Of_l1 : Go.A.Code := .loop [f,t,t,f,t,t,t,t,t,f,t,f,f,f,f,f,f,f] 5 lockstepref06_Of_b1
theorem lockstepref06_Of_l1_eq (T : Nat → Option Entry) (s : St) : exec T lockstepref06_Of_l1 s = (exec T lockstepref06_Of_b1 s).bind (loopK (exec T lockstepref06_Of_l1) [f,t,t,f,t,t,t,t,t,f,t,f,f,f,f,f,f,f] 5) := exec_loop T s _ _ _
def lockstepref06_Of_b2 : Go.A.Code :=
   (.seq (.seq (.reg [q (.mv (.s 6)), q (.mv (.s 4)), w 12 (.bin .lss (.l 1) (.l 0))])
   (.cond (.s 12) .skip
   (.exit 0 [f,f,t,f,f,t,f,f,f,f,f,f,f,f,f,f,f,f] 3)))
   (.seq (.block 1 (.seq (.reg [q (.fa 2 (.s 1)), q (.ld none (.l 0)), q (.mv (.s 6)), q (.ia 5 (.l 1) (.l 0)), q (.fa 2 (.l 0)), q (.ld (some 3) (.l 0)), w 7 (.al [.f (.lit (.int .i64 0)), .f (.lit (.int .i64 0)), .f (.sl [])] []), e (.st 3 (.s 7) (.l 1))])
   (.seq (.seq (.reg [q (.fa 0 (.s 7)), q (.ld none (.l 0)), q (.bin .lss (.l 0) (i 0)), q (.mv (.l 0)), ⟨.loc, .fa 0 (.s 7), (some (.l 0, false))⟩, ⟨.loc, .ld none (.l 0), (some (.l 1, false))⟩, ⟨.loc, .bin .gtr (.l 0) (i 3), (some (.l 2, false))⟩, q (.pick (.l 3) (bo true) (.l 0)), q (.mv (.l 0)), ⟨.loc, .fa 2 (.s 7), (some (.l 0, false))⟩, ⟨.loc, .ld none (.l 0), (some (.l 1, false))⟩, ⟨.loc, .len (.l 0), (some (.l 2, false))⟩, ⟨.loc, .bsl .fz 1 [[.f (.lit (.int .i64 0))], [.f (.lit (.int .i64 0))], [.f (.lit (.int .i64 0))], [.f (.lit (.int .i64 0))]] [(0, (i 0)), (1, (i 1)), (2, (i 2)), (3, (i 0))], (some (.l 3, false))⟩, ⟨.loc, .fa 0 (.s 7), (some (.l 4, false))⟩, ⟨.loc, .ld none (.l 0), (some (.l 5, false))⟩, ⟨.loc, .ia 1 (.l 2) (.l 0), (some (.l 6, false))⟩, ⟨.loc, .ld none (.l 0), (some (.l 7, false))⟩, ⟨.loc, .bin .neq (.l 5) (.l 0), (some (.l 8, false))⟩, w 13 (.pick (.l 9) (bo true) (.l 0))])
   (.cond (.s 13) (.seq (.reg [q (.bld [.f (.sl []), .f (.sl [])] [] []), e (.st 2 (.s 2) (.l 0)), w 3 (.mv (i 5))])
   (.ret [f,f,t,t,f,f,f,f,f,f,f,f,f,f,f,f,f,f]))
   .skip))
   (.seq (.reg [w 8 (.nl .tk 1)])
   (.seq (.seq (.reg [w 9 (.mv (i 0))])
   (.block 2 lockstepref06_Of_l0))
   (.seq (.seq (.reg [w 10 (.mv (i 1))])
   (.block 4 lockstepref06_Of_l1))
   (.reg [q (.mv (.s 5)), q (.mv (.s 8)), q (.bsl .fz 1 [[.f (.sl [])]] [(0, (.l 0))]), q (.app 1 (.l 2) (.l 0)), w 5 (.mv (.l 0))])))))))
   (.reg [q (.mv (.s 6)), q (.bin .add (.l 0) (i 1)), w 6 (.mv (.l 0))])))
def lockstepref06_Of_l2 : Go.A.Code := .loop [f,t,t,f,t,t,t,f,f,f,f,f,f,f,f,f,f,f] 3 lockstepref06_Of_b2
theorem lockstepref06_Of_l2_eq (T : Nat → Option Entry) (s : St) : exec T lockstepref06_Of_l2 s = (exec T lockstepref06_Of_b2 s).bind (loopK (exec T lockstepref06_Of_l2) [f,t,t,f,t,t,t,f,f,f,f,f,f,f,f,f,f,f] 3) := exec_loop T s _ _ _
/-- lockstep/lockstepref06.Of -/
def a_lockstepref06_Of : Fun := { np := 1, nslots := 18, keep := 0, raw := false, results := [(2, some (some 2)), (3, none)], body :=
   (.seq (.reg [w 1 (.box 3 (.s 0)), w 2 (.al [.f (.sl []), .f (.sl [])] []), w 3 (.mv (i 0))])
   (.seq (.reg [q (.fa 2 (.s 1)), q (.ld none (.l 0)), q (.len (.l 0)), w 4 (.mv (.l 0))])
   (.seq (.seq (.reg [q (.mv (.s 4)), q (.bin .eql (.l 0) (i 0)), q (.mv (.l 0)), ⟨.loc, .mv (.s 4), (some (.l 0, false))⟩, ⟨.loc, .bin .gtr (.l 0) (i 64), (some (.l 1, false))⟩, w 11 (.pick (.l 2) (bo true) (.l 0))])
   (.cond (.s 11) (.seq (.reg [q (.bld [.f (.sl []), .f (.sl [])] [] []), e (.st 2 (.s 2) (.l 0)), w 3 (.mv (i 5))])
   (.ret [f,f,t,t,f,f,f,f,f,f,f,f,f,f,f,f,f,f]))
   .skip))
   (.seq (.reg [w 5 (.nl .tk 1)])
   (.seq (.seq (.reg [w 6 (.mv (i 0))])
   (.block 0 lockstepref06_Of_l2))
   (.seq (.reg [q (.mv (.s 5)), q (.call .cl (.c (.one (.fn F.lockstepref06_Make [] []))) [(.l 0)]), q (.ext (.l 0) 0), q (.ext (.l 1) 1), e (.st 2 (.s 2) (.l 1)), w 3 (.mv (.l 1))])
   (.ret [f,f,t,t,f,f,f,f,f,f,f,f,f,f,f,f,f,f]))))))) }
def k_lockstepref06_Of : List Go.Tmp := [0, 1, 2, 3, 4, 5, 6, 7, 8, 9, 10, 19, 23, 50, 56, 73, 77, 83]
theorem c_lockstepref06_Of : chkFun Go.Proofs.Tryz.prog (drawsOf Go.Proofs.Tryz.prog) k_lockstepref06_Of Go.Proofs.Tryz.f54 a_lockstepref06_Of = true := by kernel_rfl

def lockstepref07_Tree_b0 : Go.A.Code :=
   (.seq (.seq (.reg [q (.mv (.s 9)), q (.mv (.s 4)), w 17 (.bin .lss (.l 1) (.l 0))])
   (.cond (.s 17) .skip
   (.exit 2 [f,t,t,f,t,t,t,t,f,f,f,f,f,f,f,f,f,f,f,f,f,f,f,f] 1000000)))
   (.seq (.block 3 (.reg [q (.mv (.s 6)), q (.mv (.s 7)), q (.ia 1 (.l 1) (.l 0)), q (.ld none (.l 0)), q (.mv (.s 9)), q (.mv (.s 5)), q (.mv (.s 9)), q (.ia 1 (.l 1) (.l 0)), q (.ld none (.l 0)), q (.mv (.l 0)), ⟨.loc, .mv (.s 8), (some (.l 0, true))⟩, ⟨.loc, .mv (.s 9), (some (.l 1, true))⟩, ⟨.loc, .ia 1 (.l 1) (.l 0), (some (.l 2, true))⟩, ⟨.loc, .ld none (.l 0), (some (.l 3, true))⟩, ⟨.loc, .un .not (.l 0), (some (.l 4, true))⟩, q (.pick (.l 5) (.l 0) (bo false)), q (.ia 1 (.l 12) (.l 11)), e (.st 1 (.l 0) (.l 1))]))
   (.reg [q (.mv (.s 9)), q (.bin .add (.l 0) (i 1)), w 9 (.mv (.l 0))])))
def lockstepref07_Tree_l0 : Go.A.Code := .loop [f,t,t,f,t,t,t,t,t,t,f,f,f,f,f,f,f,f,f,f,f,f,f,f] 1000000 lockstepref07_Tree_b0
theorem lockstepref07_Tree_l0_eq (T : Nat → Option Entry) (s : St) : exec T lockstepref07_Tree_l0 s = (exec T lockstepref07_Tree_b0 s).bind (loopK (exec T lockstepref07_Tree_l0) [f,t,t,f,t,t,t,t,t,t,f,f,f,f,f,f,f,f,f,f,f,f,f,f] 1000000) := exec_loop T s _ _ _
def lockstepref07_Tree_b1 : Go.A.Code :=
   (.seq (.seq (.reg [q (.mv (.s 7)), q (.mv (.s 4)), w 16 (.bin .lss (.l 1) (.l 0))])
   (.cond (.s 16) .skip
   (.exit 0 [f,t,f,f,t,f,t,f,f,f,f,f,f,f,f,f,f,f,f,f,f,f,f,f] 1000000)))
   (.seq (.block 1 (.seq (.reg [q (.mv (.s 6)), q (.mv (.s 7)), q (.mv (.s 4)), q (.mks [.f (.lit (.bool false))] none (.l 0)), q (.ia 1 (.l 3) (.l 2)), e (.st 1 (.l 0) (.l 1))])
   (.seq (.reg [q (.ld (some 2) (.s 2)), q (.mv (.s 1)), q (.mv (.s 7)), q (.call .cl (.c (.one (.fn F.lockstepref06_Reach [] []))) [(.l 2), (.l 1), (.l 0)]), w 8 (.mv (.l 0))])
   (.seq (.reg [w 9 (.mv (i 0))])
   (.block 2 lockstepref07_Tree_l0)))))
   (.reg [q (.mv (.s 7)), q (.bin .add (.l 0) (i 1)), w 7 (.mv (.l 0))])))
def lockstepref07_Tree_l1 : Go.A.Code := .loop [f,t,t,f,t,t,t,t,f,f,f,f,f,f,f,f,f,f,f,f,f,f,f,f] 1000000 lockstepref07_Tree_b1
theorem lockstepref07_Tree_l1_eq (T : Nat → Option Entry) (s : St) : exec T lockstepref07_Tree_l1 s = (exec T lockstepref07_Tree_b1 s).bind (loopK (exec T lockstepref07_Tree_l1) [f,t,t,f,t,t,t,t,f,f,f,f,f,f,f,f,f,f,f,f,f,f,f,f] 1000000) := exec_loop T s _ _ _
def lockstepref07_Tree_b2 : Go.A.Code :=
   (.seq (.seq (.reg [q (.mv (.s 14)), q (.mv (.s 4)), w 22 (.bin .lss (.l 1) (.l 0))])
   (.cond (.s 22) .skip
   (.exit 8 [f,t,f,f,t,f,t,f,f,f,t,t,t,t,f,f,f,f,f,f,f,f,f,f] 1000000)))
   (.seq (.block 9 (.reg [q (.mv (.s 13)), q (.mv (.l 0)), ⟨.loc, .mv (.s 14), (some (.l 0, true))⟩, ⟨.loc, .mv (.s 11), (some (.l 1, true))⟩, ⟨.loc, .bin .eql (.l 1) (.l 0), (some (.l 2, true))⟩, ⟨.loc, .mv (.l 0), (some (.l 3, true))⟩, ⟨.loc, .mv (.s 6), (some (.l 0, false))⟩, ⟨.loc, .mv (.s 14), (some (.l 1, false))⟩, ⟨.loc, .ia 1 (.l 1) (.l 0), (some (.l 2, false))⟩, ⟨.loc, .ld none (.l 0), (some (.l 3, false))⟩, ⟨.loc, .mv (.s 11), (some (.l 4, false))⟩, ⟨.loc, .ia 1 (.l 1) (.l 0), (some (.l 5, false))⟩, ⟨.loc, .ld none (.l 0), (some (.l 6, false))⟩, ⟨.loc, .un .not (.l 0), (some (.l 7, false))⟩, ⟨.loc, .pick (.l 8) (bo true) (.l 0), (some (.l 12, true))⟩, ⟨.loc, .mv (.l 0), (some (.l 13, true))⟩, ⟨.loc, .mv (.s 6), (some (.l 0, false))⟩, ⟨.loc, .mv (.s 14), (some (.l 1, false))⟩, ⟨.loc, .ia 1 (.l 1) (.l 0), (some (.l 2, false))⟩, ⟨.loc, .ld none (.l 0), (some (.l 3, false))⟩, ⟨.loc, .mv (.s 12), (some (.l 4, false))⟩, ⟨.loc, .ia 1 (.l 1) (.l 0), (some (.l 5, false))⟩, ⟨.loc, .ld none (.l 0), (some (.l 6, false))⟩, ⟨.loc, .pick (.l 7) (bo true) (.l 0), (some (.l 21, true))⟩, q (.pick (.l 22) (.l 0) (bo false)), w 13 (.mv (.l 0))]))
   (.reg [q (.mv (.s 14)), q (.bin .add (.l 0) (i 1)), w 14 (.mv (.l 0))])))
def lockstepref07_Tree_l2 : Go.A.Code := .loop [f,t,f,f,t,f,t,f,f,f,t,t,t,t,t,f,f,f,f,f,f,f,f,f] 1000000 lockstepref07_Tree_b2
theorem lockstepref07_Tree_l2_eq (T : Nat → Option Entry) (s : St) : exec T lockstepref07_Tree_l2 s = (exec T lockstepref07_Tree_b2 s).bind (loopK (exec T lockstepref07_Tree_l2) [f,t,f,f,t,f,t,f,f,f,t,t,t,t,t,f,f,f,f,f,f,f,f,f] 1000000) := exec_loop T s _ _ _
def lockstepref07_Tree_b3 : Go.A.Code :=
   (.seq (.seq (.reg [q (.mv (.s 12)), q (.mv (.s 4)), q (.bin .lss (.l 1) (.l 0)), q (.mv (.l 0)), ⟨.loc, .mv (.s 11), (some (.l 0, true))⟩, ⟨.loc, .mv (.s 1), (some (.l 1, true))⟩, ⟨.loc, .bin .neq (.l 1) (.l 0), (some (.l 2, true))⟩, w 20 (.pick (.l 3) (.l 0) (bo false))])
   (.cond (.s 20) .skip
   (.exit 6 [f,t,f,f,t,f,t,f,f,f,t,t,f,f,f,f,f,f,f,f,f,f,f,f] 1000000)))
   (.seq (.block 7 (.seq (.seq (.reg [q (.mv (.s 12)), q (.mv (.s 11)), q (.bin .eql (.l 1) (.l 0)), q (.mv (.l 0)), ⟨.loc, .mv (.s 6), (some (.l 0, false))⟩, ⟨.loc, .mv (.s 12), (some (.l 1, false))⟩, ⟨.loc, .ia 1 (.l 1) (.l 0), (some (.l 2, false))⟩, ⟨.loc, .ld none (.l 0), (some (.l 3, false))⟩, ⟨.loc, .mv (.s 11), (some (.l 4, false))⟩, ⟨.loc, .ia 1 (.l 1) (.l 0), (some (.l 5, false))⟩, ⟨.loc, .ld none (.l 0), (some (.l 6, false))⟩, ⟨.loc, .un .not (.l 0), (some (.l 7, false))⟩, w 21 (.pick (.l 8) (bo true) (.l 0))])
   (.cond (.s 21) (.exit 7 [f,t,f,f,t,f,t,f,f,f,t,t,t,f,f,f,f,f,f,f,f,f,f,f] 1000000)
   .skip))
   (.seq (.reg [w 13 (.mv (bo true))])
   (.seq (.seq (.reg [w 14 (.mv (i 0))])
   (.block 8 lockstepref07_Tree_l2))
   (.seq (.reg [w 23 (.mv (.s 13))])
   (.cond (.s 23) (.reg [q (.mv (.s 10)), q (.mv (.s 11)), q (.mv (.s 12)), q (.ia 1 (.l 2) (.l 1)), e (.st 1 (.l 0) (.l 1))])
   .skip))))))
   (.reg [q (.mv (.s 12)), q (.bin .add (.l 0) (i 1)), w 12 (.mv (.l 0))])))
def lockstepref07_Tree_l3 : Go.A.Code := .loop [f,t,f,f,t,f,t,f,f,f,t,t,t,f,f,f,f,f,f,f,f,f,f,f] 1000000 lockstepref07_Tree_b3
theorem lockstepref07_Tree_l3_eq (T : Nat → Option Entry) (s : St) : exec T lockstepref07_Tree_l3 s = (exec T lockstepref07_Tree_b3 s).bind (loopK (exec T lockstepref07_Tree_l3) [f,t,f,f,t,f,t,f,f,f,t,t,t,f,f,f,f,f,f,f,f,f,f,f] 1000000) := exec_loop T s _ _ _
def lockstepref07_Tree_b4 : Go.A.Code :=
   (.seq (.seq (.reg [q (.mv (.s 11)), q (.mv (.s 4)), w 18 (.bin .lss (.l 1) (.l 0))])
   (.cond (.s 18) .skip
   (.exit 4 [f,f,f,f,f,f,f,f,f,f,t,f,f,f,f,f,f,f,f,f,f,f,f,f] 1000000)))
   (.seq (.block 5 (.seq (.reg [q (.mv (.s 10)), q (.mv (.s 11)), q (.ia 1 (.l 1) (.l 0)), e (.st 1 (.l 0) (i (-2)))])
   (.seq (.seq (.reg [q (.mv (.s 11)), q (.mv (.s 1)), w 19 (.bin .eql (.l 1) (.l 0))])
   (.cond (.s 19) (.reg [q (.mv (.s 10)), q (.mv (.s 11)), q (.ia 1 (.l 1) (.l 0)), e (.st 1 (.l 0) (i (-1)))])
   .skip))
   (.seq (.reg [w 12 (.mv (i 0))])
   (.block 6 lockstepref07_Tree_l3)))))
   (.reg [q (.mv (.s 11)), q (.bin .add (.l 0) (i 1)), w 11 (.mv (.l 0))])))
def lockstepref07_Tree_l4 : Go.A.Code := .loop [f,t,f,f,t,f,t,f,f,f,t,t,f,f,f,f,f,f,f,f,f,f,f,f] 1000000 lockstepref07_Tree_b4
theorem lockstepref07_Tree_l4_eq (T : Nat → Option Entry) (s : St) : exec T lockstepref07_Tree_l4 s = (exec T lockstepref07_Tree_b4 s).bind (loopK (exec T lockstepref07_Tree_l4) [f,t,f,f,t,f,t,f,f,f,t,t,f,f,f,f,f,f,f,f,f,f,f,f] 1000000) := exec_loop T s _ _ _
/-- lockstep/lockstepref07.Tree -/
def a_lockstepref07_Tree : Fun := { np := 2, nslots := 24, keep := 0, raw := false, results := [(3, none)], body :=
   (.seq (.reg [w 2 (.box 2 (.s 0)), w 3 (.mv (.c (.one (.f (.sl [])))))])
   (.seq (.seq (.reg [q (.ld (some 2) (.s 2)), q (.call .cl (.c (.one (.fn F.lockstepref06_May [] []))) [(.l 0)]), q (.un .not (.l 0)), q (.mv (.l 0)), ⟨.loc, .mv (.s 1), (some (.l 0, false))⟩, ⟨.loc, .bin .lss (.l 0) (i 0), (some (.l 1, false))⟩, q (.pick (.l 2) (bo true) (.l 0)), q (.mv (.l 0)), ⟨.loc, .mv (.s 1), (some (.l 0, false))⟩, ⟨.loc, .fa 0 (.s 2), (some (.l 1, false))⟩, ⟨.loc, .ld none (.l 0), (some (.l 2, false))⟩, ⟨.loc, .len (.l 0), (some (.l 3, false))⟩, ⟨.loc, .bin .geq (.l 3) (.l 0), (some (.l 4, false))⟩, w 15 (.pick (.l 5) (bo true) (.l 0))])
   (.cond (.s 15) (.seq (.reg [w 3 (.mv (.c (.one (.f (.sl [])))))])
   (.ret [f,f,f,t,f,f,f,f,f,f,f,f,f,f,f,f,f,f,f,f,f,f,f,f]))
   .skip))
   (.seq (.reg [q (.fa 0 (.s 2)), q (.ld none (.l 0)), q (.len (.l 0)), w 4 (.mv (.l 0))])
   (.seq (.reg [q (.ld (some 2) (.s 2)), q (.mv (.s 1)), q (.call .cl (.c (.one (.fn F.lockstepref06_Reach [] []))) [(.l 1), (.l 0), (i (-1))]), w 5 (.mv (.l 0))])
   (.seq (.reg [q (.mv (.s 4)), q (.mks [.f (.sl [])] none (.l 0)), w 6 (.mv (.l 0))])
   (.seq (.seq (.reg [w 7 (.mv (i 0))])
   (.block 0 lockstepref07_Tree_l1))
   (.seq (.reg [q (.mv (.s 4)), q (.mks [.f (.lit (.int .i64 0))] none (.l 0)), w 10 (.mv (.l 0))])
   (.seq (.seq (.reg [w 11 (.mv (i 0))])
   (.block 4 lockstepref07_Tree_l4))
   (.seq (.reg [q (.mv (.s 10)), w 3 (.mv (.l 0))])
   (.ret [f,f,f,t,f,f,f,f,f,f,f,f,f,f,f,f,f,f,f,f,f,f,f,f])))))))))) }
def k_lockstepref07_Tree : List Go.Tmp := [0, 1, 2, 4, 5, 6, 7, 8, 9, 10, 11, 12, 13, 14, 15, 29, 40, 54, 78, 86, 97, 112, 115, 143]
theorem c_lockstepref07_Tree : chkFun Go.Proofs.Tryz.prog (drawsOf Go.Proofs.Tryz.prog) k_lockstepref07_Tree Go.Proofs.Tryz.f55 a_lockstepref07_Tree = true := by kernel_rfl

def lockstepref07_Meet_b0 : Go.A.Code :=
   (.seq (.seq (.reg [q (.mv (.s 6)), q (.mv (.s 4)), q (.len (.l 0)), w 8 (.bin .lss (.l 2) (.l 0))])
   (.cond (.s 8) .skip
   (.exit 0 [f,f,f,f,f,f,f,f,f,f] 0)))
   (.seq (.block 1 (.seq (.reg [q (.mv (.s 5)), q (.mv (.s 4)), q (.mv (.s 6)), q (.ia 1 (.l 1) (.l 0)), q (.ld none (.l 0)), w 9 (.call .cl (.c (.one (.fn F.lockstepref06_Has [] []))) [(.l 4), (.l 0)])])
   (.cond (.s 9) (.seq (.reg [q (.mv (.s 4)), q (.mv (.s 6)), q (.ia 1 (.l 1) (.l 0)), q (.ld none (.l 0)), w 3 (.mv (.l 0))])
   (.ret [f,f,f,t,f,f,f,f,f,f]))
   .skip)))
   (.reg [q (.mv (.s 6)), q (.bin .add (.l 0) (i 1)), w 6 (.mv (.l 0))])))
def lockstepref07_Meet_l0 : Go.A.Code := .loop [f,f,f,f,t,t,t,f,f,f] 0 lockstepref07_Meet_b0
theorem lockstepref07_Meet_l0_eq (T : Nat → Option Entry) (s : St) : exec T lockstepref07_Meet_l0 s = (exec T lockstepref07_Meet_b0 s).bind (loopK (exec T lockstepref07_Meet_l0) [f,f,f,f,t,t,t,f,f,f] 0) := exec_loop T s _ _ _
/-- lockstep/lockstepref07.Meet -/
def a_lockstepref07_Meet : Fun := { np := 3, nslots := 10, keep := 0, raw := false, results := [(3, none)], body :=
   (.seq (.reg [w 3 (.mv (i 0))])
   (.seq (.seq (.reg [q (.mv (.s 0)), q (.call .cl (.c (.one (.fn F.lockstepref07_Right [] []))) [(.l 0)]), w 7 (.un .not (.l 0))])
   (.cond (.s 7) (.seq (.reg [w 3 (.mv (i (-2)))])
   (.ret [f,f,f,t,f,f,f,f,f,f]))
   .skip))
   (.seq (.reg [q (.mv (.s 0)), q (.mv (.s 1)), q (.call .cl (.c (.one (.fn F.lockstepref07_Path [] []))) [(.l 1), (.l 0)]), w 4 (.mv (.l 0))])
   (.seq (.reg [q (.mv (.s 0)), q (.mv (.s 2)), q (.call .cl (.c (.one (.fn F.lockstepref07_Path [] []))) [(.l 1), (.l 0)]), w 5 (.mv (.l 0))])
   (.seq (.seq (.reg [w 6 (.mv (i 0))])
   (.block 0 lockstepref07_Meet_l0))
   (.seq (.reg [w 3 (.mv (i (-2)))])
   (.ret [f,f,f,t,f,f,f,f,f,f]))))))) }
def k_lockstepref07_Meet : List Go.Tmp := [0, 1, 2, 6, 7, 8, 9, 12, 22, 30]
theorem c_lockstepref07_Meet : chkFun Go.Proofs.Tryz.prog (drawsOf Go.Proofs.Tryz.prog) k_lockstepref07_Meet Go.Proofs.Tryz.f56 a_lockstepref07_Meet = true := by kernel_rfl

/-- lockstep/kind.Shape -/
def a_kind_Shape : Fun := { np := 2, nslots := 7, keep := 0, raw := false, results := [(2, none)], body :=
   (.seq (.reg [w 2 (.mv (bo false))])
   (.seq (.seq (.reg [q (.mv (.s 0)), q (.call .cl (.c (.one (.fn F.word_May [] []))) [(.l 0)]), w 3 (.un .not (.l 0))])
   (.cond (.s 3) (.seq (.reg [w 2 (.mv (bo false))])
   (.ret [f,f,t,f,f,f,f]))
   .skip))
   (.seq (.seq (.reg [w 4 (.mv (.s 1))])
   (.block 0 (.seq (.reg [q (.bin .eql (.s 4) (i 1)), w 5 (.mv (.l 0))])
   (.cond (.s 5) (.seq (.reg [w 2 (.mv (bo true))])
   (.ret [f,f,t,f,f,f,f]))
   (.seq (.seq (.reg [q (.bin .eql (.s 4) (i 2)), w 6 (.mv (.l 0))])
   (.cond (.s 6) .skip
   (.seq (.reg [q (.bin .eql (.s 4) (i 4)), w 6 (.mv (.l 0))])
   (.cond (.s 6) .skip
   (.seq (.reg [q (.bin .eql (.s 4) (i 8)), w 6 (.mv (.l 0))])
   (.cond (.s 6) .skip
   (.reg [q (.bin .eql (.s 4) (i 16)), w 6 (.mv (.l 0))])))))))
   (.cond (.s 6) (.seq (.reg [q (.mv (.s 0)), q (.bin .geq (.l 0) (i 8)), q (.mv (.l 0)), ⟨.loc, .mv (.s 0), (some (.l 0, true))⟩, ⟨.loc, .mv (.s 1), (some (.l 1, true))⟩, ⟨.loc, .bin .mul (.l 1) (.l 0), (some (.l 2, true))⟩, ⟨.loc, .bin .leq (.l 0) (i 128), (some (.l 3, true))⟩, q (.pick (.l 4) (.l 0) (bo false)), w 2 (.mv (.l 0))])
   (.ret [f,f,t,f,f,f,f]))
   .skip))))))
   (.seq (.reg [w 2 (.mv (bo false))])
   (.ret [f,f,t,f,f,f,f]))))) }
def k_kind_Shape : List Go.Tmp := [0, 1, 4, 7, 8, 9, 11]
theorem c_kind_Shape : chkFun Go.Proofs.Tryz.prog (drawsOf Go.Proofs.Tryz.prog) k_kind_Shape Go.Proofs.Tryz.f63 a_kind_Shape = true := by kernel_rfl

/-- slices.ContainsFunc[[]int,int] -/
def a_slices_ContainsFunc_int : Fun := { np := 2, nslots := 3, keep := 0, raw := false, results := [(2, none)], body :=
   (.seq (.reg [w 2 (.mv (bo false))])
   (.seq (.reg [q (.mv (.s 0)), q (.mv (.s 1)), q (.call .op (.c (.one (.fn F.slices_IndexFunc_int [] []))) [(.l 1), (.l 0)]), q (.bin .geq (.l 0) (i 0)), w 2 (.mv (.l 0))])
   (.ret [f,f,t]))) }
def k_slices_ContainsFunc_int : List Go.Tmp := [0, 1, 4]
theorem c_slices_ContainsFunc_int : chkFun Go.Proofs.Tryz.prog (drawsOf Go.Proofs.Tryz.prog) k_slices_ContainsFunc_int Go.Proofs.Tryz.f65 a_slices_ContainsFunc_int = true := by kernel_rfl

def check_look_b0 : Go.A.Code :=
   (.seq (.reg [w 12 (.bin .lss (.s 11) (.s 10))])
   (.seq (.cond (.s 12) .skip
   (.exit 0 [f,f,f,f,f,t,f,f,f,f,f,f,f,f] 5))
   (.seq (.block 1 (.seq (.reg [q (.ia 1 (.s 9) (.s 11)), q (.ld none (.l 0)), w 6 (.mv (.l 0))])
   (.seq (.reg [q (.mv (.s 6)), q (.call .op (.l 0) []), w 7 (.mv (.l 0))])
   (.seq (.reg [q (.mv (.s 7)), w 13 (.bin .neq (.l 0) (i 0))])
   (.cond (.s 13) (.seq (.reg [q (.mv (.s 5)), q (.mv (.s 7)), w 3 (.mv (.l 1)), w 4 (.mv (.l 1))])
   (.ret [f,f,f,t,t,f,f,f,f,f,f,f,f,f]))
   .skip)))))
   (.reg [q (.bin .add (.s 11) (i 1)), w 11 (.mv (.l 0))]))))
def check_look_l0 : Go.A.Code := .loop [f,f,f,f,f,t,f,f,f,t,t,t,f,f] 5 check_look_b0
theorem check_look_l0_eq (T : Nat → Option Entry) (s : St) : exec T check_look_l0 s = (exec T check_look_b0 s).bind (loopK (exec T check_look_l0) [f,f,f,f,f,t,f,f,f,t,t,t,f,f] 5) := exec_loop T s _ _ _
/-- lockstep/check.look -/
def a_check_look : Fun := { np := 2, nslots := 14, keep := 5, raw := false, results := [(3, none), (4, none)], body :=
   (.seq (.reg [w 2 (.box 3 (.s 0)), w 3 (.mv (.c (.one (.f (.lit (.pointer none)))))), w 4 (.mv (i 0))])
   (.seq (.reg [q (.ld (some 3) (.s 2)), q (.mv (.s 1)), q (.bld [.f (.sl []), .f (.lit (.int .i64 0)), .f (.sl []), .f (.lit (.int .i64 0)), .f (.sl []), .f (.sl []), .f (.sl []), .f (.lit (.map none))] [(0, 3, (.l 1)), (3, 1, (.l 0))] []), q (.box 8 (.l 0)), w 5 (.mv (.l 0))])
   (.seq (.seq (.reg [q (.ld (some 3) (.s 2)), q (.call .cl (.c (.one (.fn F.code_May [] []))) [(.l 0)]), w 8 (.un .not (.l 0))])
   (.cond (.s 8) (.seq (.reg [q (.mv (.s 5)), w 3 (.mv (.l 0)), w 4 (.mv (i 4))])
   (.ret [f,f,f,t,t,f,f,f,f,f,f,f,f,f]))
   .skip))
   (.seq (.seq (.reg [q (.mv (.s 5)), q (.mkf F.check_checker_shape [(.l 0)] []), q (.mv (.s 5)), q (.mkf F.check_checker_typed [(.l 0)] []), q (.mv (.s 5)), q (.mkf F.check_checker_defined [(.l 0)] []), q (.mv (.s 5)), q (.mkf F.check_checker_shapes [(.l 0)] []), q (.mv (.s 5)), q (.mkf F.check_checker_places [(.l 0)] []), w 9 (.bsl .rw 1 [[.f (.lit .nilFunc)], [.f (.lit .nilFunc)], [.f (.lit .nilFunc)], [.f (.lit .nilFunc)], [.f (.lit .nilFunc)]] [(0, (.l 8)), (1, (.l 6)), (2, (.l 4)), (3, (.l 2)), (4, (.l 0))]), w 10 (.len (.s 9)), w 11 (.mv (i 0))])
   (.block 0 check_look_l0))
   (.seq (.reg [q (.mv (.s 5)), w 3 (.mv (.l 0)), w 4 (.mv (i 0))])
   (.ret [f,f,f,t,t,f,f,f,f,f,f,f,f,f])))))) }
def k_check_look : List Go.Tmp := [0, 1, 2, 4, 5, 6, 8, 9, 16, 28, 29, 30, 31, 37]
theorem c_check_look : chkFun Go.Proofs.Tryz.prog (drawsOf Go.Proofs.Tryz.prog) k_check_look Go.Proofs.Tryz.f75 a_check_look = true := by kernel_rfl

/-- lockstep/word.May -/
def a_word_May : Fun := { np := 1, nslots := 4, keep := 0, raw := false, results := [(1, none)], body :=
   (.seq (.reg [w 1 (.mv (bo false))])
   (.seq (.seq (.reg [w 2 (.mv (.s 0))])
   (.block 0 (.seq (.seq (.reg [q (.bin .eql (.s 2) (i 1)), w 3 (.mv (.l 0))])
   (.cond (.s 3) .skip
   (.seq (.reg [q (.bin .eql (.s 2) (i 8)), w 3 (.mv (.l 0))])
   (.cond (.s 3) .skip
   (.seq (.reg [q (.bin .eql (.s 2) (i 16)), w 3 (.mv (.l 0))])
   (.cond (.s 3) .skip
   (.seq (.reg [q (.bin .eql (.s 2) (i 32)), w 3 (.mv (.l 0))])
   (.cond (.s 3) .skip
   (.reg [q (.bin .eql (.s 2) (i 64)), w 3 (.mv (.l 0))])))))))))
   (.cond (.s 3) (.seq (.reg [w 1 (.mv (bo true))])
   (.ret [f,t,f,f]))
   .skip))))
   (.seq (.reg [w 1 (.mv (bo false))])
   (.ret [f,t,f,f])))) }
def k_word_May : List Go.Tmp := [0, 2, 3, 4]
theorem c_word_May : chkFun Go.Proofs.Tryz.prog (drawsOf Go.Proofs.Tryz.prog) k_word_May Go.Proofs.Tryz.f76 a_word_May = true := by kernel_rfl

/-- (*lockstep/eval.machine).all -/
def a_eval_machine_all : Fun := { np := 1, nslots := 3, keep := 10, raw := false, results := [(1, none)], body :=
   (.seq (.reg [w 1 (.mv (.c (.one (.f (.lit (.map none))))))])
   (.seq (.reg [q (.mv (.s 0)), q (.call .op (.c (.one (.fn F.eval_machine_ways [] []))) [(.l 0)]), w 2 (.mv (.l 0))])
   (.seq (.reg [q (.mv (.s 2)), q (.mv (.s 0)), q (.call .op (.c (.one (.fn F.eval_machine_guarded [] []))) [(.l 0), (i 16), (i 1)]), e (.mu (.l 2) (i 18) (.l 0))])
   (.seq (.reg [q (.mv (.s 2)), q (.mv (.s 0)), q (.call .op (.c (.one (.fn F.eval_machine_guarded [] []))) [(.l 0), (i 17), (i 2)]), e (.mu (.l 2) (i 19) (.l 0))])
   (.seq (.reg [q (.mv (.s 2)), q (.mv (.s 0)), q (.call .op (.c (.one (.fn F.eval_machine_guarded [] []))) [(.l 0), (i 4), (i 2)]), e (.mu (.l 2) (i 20) (.l 0))])
   (.seq (.reg [q (.mv (.s 2)), w 1 (.mv (.l 0))])
   (.ret [f,t,f]))))))) }
def k_eval_machine_all : List Go.Tmp := [0, 2, 3]
theorem c_eval_machine_all : chkFun Go.Proofs.Tryz.prog (drawsOf Go.Proofs.Tryz.prog) k_eval_machine_all Go.Proofs.Tryz.f77 a_eval_machine_all = true := by kernel_rfl

def eval_machine_phis_b0 : Go.A.Code :=
   (.seq (.reg [w 17 (.bin .lss (.s 16) (.s 15))])
   (.seq (.cond (.s 17) .skip
   (.exit 2 [t,f,t,t,t,f,f,f,f,f,t,t,t,f,f,f,f,f,f,f,f,f,f] 3))
   (.seq (.block 3 (.seq (.reg [q (.mv (.s 16)), q (.ia 1 (.s 14) (.s 16)), q (.ld none (.l 0)), w 6 (.mv (.l 2)), w 7 (.mv (.l 1))])
   (.seq (.reg [q (.mv (.s 7)), q (.mv (.s 2)), w 18 (.bin .eql (.l 1) (.l 0))])
   (.cond (.s 18) (.reg [q (.mv (.s 4)), q (.mv (.s 0)), q (.nil (.l 0)), q (.fa 4 (.l 0)), q (.ld none (.l 0)), q (.fa 3 (.s 5)), q (.ld none (.l 0)), q (.mv (.s 6)), q (.ia 1 (.l 1) (.l 0)), q (.ld none (.l 0)), q (.lk (.one (.f (.sl []))) false (.l 5) (.l 0)), q (.bsl .fz 1 [[.f (.sl [])]] [(0, (.l 0))]), q (.app 1 (.l 11) (.l 0)), w 4 (.mv (.l 0))])
   .skip))))
   (.reg [q (.bin .add (.s 16) (i 1)), w 16 (.mv (.l 0))]))))
def eval_machine_phis_l0 : Go.A.Code := .loop [t,f,t,t,t,t,f,f,f,f,t,t,t,f,t,t,t,f,f,f,f,f,f] 3 eval_machine_phis_b0
theorem eval_machine_phis_l0_eq (T : Nat → Option Entry) (s : St) : exec T eval_machine_phis_l0 s = (exec T eval_machine_phis_b0 s).bind (loopK (exec T eval_machine_phis_l0) [t,f,t,t,t,t,f,f,f,f,t,t,t,f,t,t,t,f,f,f,f,f,f] 3) := exec_loop T s _ _ _
def eval_machine_phis_b1 : Go.A.Code :=
   (.seq (.reg [w 13 (.bin .lss (.s 12) (.s 11))])
   (.seq (.cond (.s 13) .skip
   (.exit 0 [t,f,f,t,t,f,f,f,f,f,f,f,f,f,f,f,f,f,f,f,f,f,f] 2))
   (.seq (.block 1 (.seq (.reg [q (.ia 4 (.s 10) (.s 12)), q (.ld (some 4) (.l 0)), w 5 (.al [.f (.lit (.int .i64 0)), .f (.lit (.int .i64 0)), .f (.sl []), .f (.sl [])] []), e (.st 4 (.s 5) (.l 1))])
   (.seq (.reg [q (.fa 2 (.s 5)), w 14 (.ld none (.l 0)), w 15 (.len (.s 14)), w 16 (.mv (i 0))])
   (.block 2 eval_machine_phis_l0))))
   (.reg [q (.bin .add (.s 12) (i 1)), w 12 (.mv (.l 0))]))))
def eval_machine_phis_l1 : Go.A.Code := .loop [t,f,t,t,t,f,f,f,f,f,t,t,t,f,f,f,f,f,f,f,f,f,f] 2 eval_machine_phis_b1
theorem eval_machine_phis_l1_eq (T : Nat → Option Entry) (s : St) : exec T eval_machine_phis_l1 s = (exec T eval_machine_phis_b1 s).bind (loopK (exec T eval_machine_phis_l1) [t,f,t,t,t,f,f,f,f,f,t,t,t,f,f,f,f,f,f,f,f,f,f] 2) := exec_loop T s _ _ _
def eval_machine_phis_b2 : Go.A.Code :=
   (.seq (.reg [w 22 (.bin .lss (.s 21) (.s 20))])
   (.seq (.cond (.s 22) .skip
   (.exit 4 [f,f,f,f,f,f,f,f,f,f,f,f,f,f,f,f,f,f,f,f,f,f,f] 2))
   (.seq (.block 5 (.seq (.reg [q (.mv (.s 21)), q (.ia 4 (.s 19) (.s 21)), q (.ld (some 4) (.l 0)), w 9 (.al [.f (.lit (.int .i64 0)), .f (.lit (.int .i64 0)), .f (.sl []), .f (.sl [])] []), w 8 (.mv (.l 3)), e (.st 4 (.s 9) (.l 2))])
   (.reg [q (.mv (.s 0)), q (.nil (.l 0)), q (.fa 4 (.l 0)), q (.ld none (.l 0)), q (.fa 1 (.s 9)), q (.ld none (.l 0)), q (.mv (.s 4)), q (.mv (.s 8)), q (.ia 1 (.l 1) (.l 0)), q (.ld none (.l 0)), e (.mu (.l 6) (.l 4) (.l 0))])))
   (.reg [q (.bin .add (.s 21) (i 1)), w 21 (.mv (.l 0))]))))
def eval_machine_phis_l2 : Go.A.Code := .loop [t,f,f,f,t,f,f,f,f,f,f,f,f,f,f,f,f,f,f,t,t,t,f] 2 eval_machine_phis_b2
theorem eval_machine_phis_l2_eq (T : Nat → Option Entry) (s : St) : exec T eval_machine_phis_l2 s = (exec T eval_machine_phis_b2 s).bind (loopK (exec T eval_machine_phis_l2) [t,f,f,f,t,f,f,f,f,f,f,f,f,f,f,f,f,f,f,t,t,t,f] 2) := exec_loop T s _ _ _
/-- (*lockstep/eval.machine).phis -/
def a_eval_machine_phis : Fun := { np := 3, nslots := 23, keep := 0, raw := false, results := [], body :=
   (.seq (.reg [w 3 (.box 5 (.s 1))])
   (.seq (.reg [w 4 (.nl .tk 1)])
   (.seq (.seq (.reg [q (.fa 0 (.s 3)), w 10 (.ld none (.l 0)), w 11 (.len (.s 10)), w 12 (.mv (i 0))])
   (.block 0 eval_machine_phis_l1))
   (.seq (.reg [q (.fa 0 (.s 3)), w 19 (.ld none (.l 0)), w 20 (.len (.s 19)), w 21 (.mv (i 0))])
   (.block 4 eval_machine_phis_l2))))) }
def k_eval_machine_phis : List Go.Tmp := [0, 1, 2, 4, 6, 8, 9, 10, 11, 12, 14, 15, 16, 17, 21, 22, 23, 24, 30, 47, 48, 49, 50]
theorem c_eval_machine_phis : chkFun Go.Proofs.Tryz.prog (drawsOf Go.Proofs.Tryz.prog) k_eval_machine_phis Go.Proofs.Tryz.f78 a_eval_machine_phis = true := by kernel_rfl

/-- (*lockstep/eval.machine).step -/
def a_eval_machine_step : Fun := { np := 1, nslots := 3, keep := 0, raw := false, results := [(1, none)], body :=
   (.seq (.reg [w 1 (.mv (bo false))])
   (.seq (.seq (.reg [q (.mv (.s 0)), q (.nil (.l 0)), q (.fa 6 (.l 0)), q (.ld none (.l 0)), q (.mv (.s 0)), q (.nil (.l 0)), q (.fa 5 (.l 0)), q (.ld none (.l 0)), w 2 (.bin .eql (.l 4) (.l 0))])
   (.cond (.s 2) (.seq (.reg [w 1 (.mv (bo false))])
   (.ret [f,t,f]))
   .skip))
   (.seq (.reg [q (.mv (.s 0)), q (.nil (.l 0)), q (.fa 6 (.l 0)), q (.ld none (.l 0)), q (.bin .add (.l 0) (i 1)), q (.nil (.l 4)), q (.fa 6 (.l 0)), e (.st 1 (.l 0) (.l 2))])
   (.seq (.reg [w 1 (.mv (bo true))])
   (.ret [f,t,f]))))) }
def k_eval_machine_step : List Go.Tmp := [0, 2, 11]
theorem c_eval_machine_step : chkFun Go.Proofs.Tryz.prog (drawsOf Go.Proofs.Tryz.prog) k_eval_machine_step Go.Proofs.Tryz.f79 a_eval_machine_step = true := by kernel_rfl

/-- (*lockstep/eval.machine).next -/
def a_eval_machine_next : Fun := { np := 2, nslots := 5, keep := 0, raw := false, results := [(3, none)], body :=
   (.seq (.reg [w 2 (.box 3 (.s 1)), w 3 (.mv (i 0))])
   (.seq (.seq (.reg [q (.fa 0 (.s 2)), q (.ld none (.l 0)), q (.bin .eql (.l 0) (i 2)), q (.mv (.l 0)), ⟨.loc, .mv (.s 0), (some (.l 0, true))⟩, ⟨.loc, .nil (.l 0), (some (.l 1, true))⟩, ⟨.loc, .fa 4 (.l 0), (some (.l 2, true))⟩, ⟨.loc, .ld none (.l 0), (some (.l 3, true))⟩, ⟨.loc, .fa 1 (.s 2), (some (.l 4, true))⟩, ⟨.loc, .ld none (.l 0), (some (.l 5, true))⟩, ⟨.loc, .lk (.one (.f (.sl []))) false (.l 2) (.l 0), (some (.l 6, true))⟩, ⟨.loc, .ia 1 (.l 0) (i 0), (some (.l 7, true))⟩, ⟨.loc, .ld none (.l 0), (some (.l 8, true))⟩, ⟨.loc, .bin .neq (.l 0) (ik .u64 1), (some (.l 9, true))⟩, w 4 (.pick (.l 10) (.l 0) (bo false))])
   (.cond (.s 4) (.seq (.reg [q (.fa 2 (.s 2)), q (.ld none (.l 0)), q (.ia 1 (.l 0) (i 1)), q (.ld none (.l 0)), w 3 (.mv (.l 0))])
   (.ret [f,f,f,t,f]))
   .skip))
   (.seq (.reg [q (.fa 2 (.s 2)), q (.ld none (.l 0)), q (.ia 1 (.l 0) (i 0)), q (.ld none (.l 0)), w 3 (.mv (.l 0))])
   (.ret [f,f,f,t,f])))) }
def k_eval_machine_next : List Go.Tmp := [0, 1, 3, 4, 19]
theorem c_eval_machine_next : chkFun Go.Proofs.Tryz.prog (drawsOf Go.Proofs.Tryz.prog) k_eval_machine_next Go.Proofs.Tryz.f80 a_eval_machine_next = true := by kernel_rfl

def lockstepref04_list_b0 : Go.A.Code :=
   (.seq (.seq (.reg [q (.mv (.s 2)), q (.mv (.s 0)), q (.len (.l 0)), w 3 (.bin .lss (.l 2) (.l 0))])
   (.cond (.s 3) .skip
   (.exit 0 [t,f,f,f,f] 0)))
   (.seq (.block 1 (.seq (.reg [q (.mv (.s 0)), q (.mv (.s 2)), q (.ia 1 (.l 1) (.l 0)), q (.ld none (.l 0)), q (.call .cl (.c (.one (.fn F.lockstepref04_num [] []))) [(.l 0)]), w 4 (.un .not (.l 0))])
   (.cond (.s 4) (.seq (.reg [w 1 (.mv (bo false))])
   (.ret [f,t,f,f,f]))
   .skip)))
   (.reg [q (.mv (.s 2)), q (.bin .add (.l 0) (i 1)), w 2 (.mv (.l 0))])))
def lockstepref04_list_l0 : Go.A.Code := .loop [t,f,t,f,f] 0 lockstepref04_list_b0
theorem lockstepref04_list_l0_eq (T : Nat → Option Entry) (s : St) : exec T lockstepref04_list_l0 s = (exec T lockstepref04_list_b0 s).bind (loopK (exec T lockstepref04_list_l0) [t,f,t,f,f] 0) := exec_loop T s _ _ _
/-- lockstep/lockstepref04.list -/
def a_lockstepref04_list : Fun := { np := 1, nslots := 5, keep := 0, raw := false, results := [(1, none)], body :=
   (.seq (.reg [w 1 (.mv (bo false))])
   (.seq (.seq (.reg [w 2 (.mv (i 0))])
   (.block 0 lockstepref04_list_l0))
   (.seq (.reg [q (.mv (.s 0)), q (.len (.l 0)), q (.bin .leq (.l 0) (i 64)), w 1 (.mv (.l 0))])
   (.ret [f,t,f,f,f])))) }
def k_lockstepref04_list : List Go.Tmp := [0, 2, 3, 7, 15]
theorem c_lockstepref04_list : chkFun Go.Proofs.Tryz.prog (drawsOf Go.Proofs.Tryz.prog) k_lockstepref04_list Go.Proofs.Tryz.f81 a_lockstepref04_list = true := by kernel_rfl

/-- lockstep/lockstepref04.num -/
def a_lockstepref04_num : Fun := { np := 1, nslots := 2, keep := 0, raw := false, results := [(1, none)], body :=
   (.seq (.reg [w 1 (.mv (bo false))])
   (.seq (.reg [q (.mv (.s 0)), q (.bin .geq (.l 0) (i 0)), q (.mv (.l 0)), ⟨.loc, .mv (.s 0), (some (.l 0, true))⟩, ⟨.loc, .bin .leq (.l 0) (i 2147483647), (some (.l 1, true))⟩, q (.pick (.l 2) (.l 0) (bo false)), w 1 (.mv (.l 0))])
   (.ret [f,t]))) }
def k_lockstepref04_num : List Go.Tmp := [0, 2]
theorem c_lockstepref04_num : chkFun Go.Proofs.Tryz.prog (drawsOf Go.Proofs.Tryz.prog) k_lockstepref04_num Go.Proofs.Tryz.f82 a_lockstepref04_num = true := by kernel_rfl

def lockstepref04_Size_b0 : Go.A.Code :=
   (.seq (.seq (.reg [q (.mv (.s 4)), q (.fa 2 (.s 1)), q (.ld none (.l 0)), q (.len (.l 0)), w 5 (.bin .lss (.l 3) (.l 0))])
   (.cond (.s 5) .skip
   (.exit 0 [f,f,f,t,f,f] 1)))
   (.seq (.block 1 (.reg [q (.mv (.s 3)), q (.fa 2 (.s 1)), q (.ld none (.l 0)), q (.mv (.s 4)), q (.ia 5 (.l 1) (.l 0)), q (.fa 0 (.l 0)), q (.ld none (.l 0)), q (.len (.l 0)), q (.bin .add (.l 7) (.l 0)), q (.fa 2 (.s 1)), q (.ld none (.l 0)), q (.mv (.s 4)), q (.ia 5 (.l 1) (.l 0)), q (.fa 1 (.l 0)), q (.ld none (.l 0)), q (.len (.l 0)), q (.bin .add (.l 7) (.l 0)), q (.bin .add (.l 0) (i 1)), w 3 (.mv (.l 0))]))
   (.reg [q (.mv (.s 4)), q (.bin .add (.l 0) (i 1)), w 4 (.mv (.l 0))])))
def lockstepref04_Size_l0 : Go.A.Code := .loop [f,t,f,t,t,f] 1 lockstepref04_Size_b0
theorem lockstepref04_Size_l0_eq (T : Nat → Option Entry) (s : St) : exec T lockstepref04_Size_l0 s = (exec T lockstepref04_Size_b0 s).bind (loopK (exec T lockstepref04_Size_l0) [f,t,f,t,t,f] 1) := exec_loop T s _ _ _
/-- lockstep/lockstepref04.Size -/
def a_lockstepref04_Size : Fun := { np := 1, nslots := 6, keep := 0, raw := false, results := [(2, none)], body :=
   (.seq (.reg [w 1 (.box 3 (.s 0)), w 2 (.mv (i 0))])
   (.seq (.reg [w 3 (.mv (i 0))])
   (.seq (.seq (.reg [w 4 (.mv (i 0))])
   (.block 0 lockstepref04_Size_l0))
   (.seq (.reg [q (.mv (.s 3)), w 2 (.mv (.l 0))])
   (.ret [f,f,t,f,f,f]))))) }
def k_lockstepref04_Size : List Go.Tmp := [0, 1, 2, 3, 4, 9]
theorem c_lockstepref04_Size : chkFun Go.Proofs.Tryz.prog (drawsOf Go.Proofs.Tryz.prog) k_lockstepref04_Size Go.Proofs.Tryz.f83 a_lockstepref04_Size = true := by kernel_rfl

def lockstepref06_Reach_b0 : Go.A.Code :=
   (.seq (.seq (.reg [q (.mv (.s 5)), q (.mv (.s 7)), q (.ia 1 (.l 1) (.l 0)), q (.ld none (.l 0)), q (.mv (.l 0)), ⟨.loc, .mv (.s 8), (some (.l 0, true))⟩, ⟨.loc, .fa 0 (.s 3), (some (.l 1, true))⟩, ⟨.loc, .ld none (.l 0), (some (.l 2, true))⟩, ⟨.loc, .mv (.s 7), (some (.l 3, true))⟩, ⟨.loc, .ia 1 (.l 1) (.l 0), (some (.l 4, true))⟩, ⟨.loc, .ld none (.l 0), (some (.l 5, true))⟩, ⟨.loc, .len (.l 0), (some (.l 6, true))⟩, ⟨.loc, .bin .lss (.l 6) (.l 0), (some (.l 7, true))⟩, w 12 (.pick (.l 8) (.l 0) (bo false))])
   (.cond (.s 12) .skip
   (.exit 4 [f,f,t,t,f,t,t,t,f,f,f,f,f,f] 2)))
   (.seq (.block 5 (.seq (.reg [q (.fa 0 (.s 3)), q (.ld none (.l 0)), q (.mv (.s 7)), q (.ia 1 (.l 1) (.l 0)), q (.ld none (.l 0)), q (.mv (.s 8)), q (.ia 1 (.l 1) (.l 0)), q (.ld none (.l 0)), q (.mv (.s 2)), w 13 (.bin .neq (.l 1) (.l 0))])
   (.cond (.s 13) (.reg [q (.mv (.s 5)), q (.fa 0 (.s 3)), q (.ld none (.l 0)), q (.mv (.s 7)), q (.ia 1 (.l 1) (.l 0)), q (.ld none (.l 0)), q (.mv (.s 8)), q (.ia 1 (.l 1) (.l 0)), q (.ld none (.l 0)), q (.ia 1 (.l 8) (.l 0)), e (.st 1 (.l 0) (bo true))])
   .skip)))
   (.reg [q (.mv (.s 8)), q (.bin .add (.l 0) (i 1)), w 8 (.mv (.l 0))])))
def lockstepref06_Reach_l0 : Go.A.Code := .loop [f,f,t,t,f,t,t,t,t,f,f,f,f,f] 2 lockstepref06_Reach_b0
theorem lockstepref06_Reach_l0_eq (T : Nat → Option Entry) (s : St) : exec T lockstepref06_Reach_l0 s = (exec T lockstepref06_Reach_b0 s).bind (loopK (exec T lockstepref06_Reach_l0) [f,f,t,t,f,t,t,t,t,f,f,f,f,f] 2) := exec_loop T s _ _ _
def lockstepref06_Reach_b1 : Go.A.Code :=
   (.seq (.seq (.reg [q (.mv (.s 7)), q (.mv (.s 5)), q (.len (.l 0)), w 11 (.bin .lss (.l 2) (.l 0))])
   (.cond (.s 11) .skip
   (.exit 2 [f,f,t,t,f,t,t,f,f,f,f,f,f,f] 2)))
   (.seq (.block 3 (.seq (.reg [w 8 (.mv (i 0))])
   (.block 4 lockstepref06_Reach_l0)))
   (.reg [q (.mv (.s 7)), q (.bin .add (.l 0) (i 1)), w 7 (.mv (.l 0))])))
def lockstepref06_Reach_l1 : Go.A.Code := .loop [f,f,t,t,f,t,t,t,f,f,f,f,f,f] 2 lockstepref06_Reach_b1
theorem lockstepref06_Reach_l1_eq (T : Nat → Option Entry) (s : St) : exec T lockstepref06_Reach_l1 s = (exec T lockstepref06_Reach_b1 s).bind (loopK (exec T lockstepref06_Reach_l1) [f,f,t,t,f,t,t,t,f,f,f,f,f,f] 2) := exec_loop T s _ _ _
def lockstepref06_Reach_b2 : Go.A.Code :=
   (.seq (.seq (.reg [q (.mv (.s 6)), q (.mv (.s 5)), q (.len (.l 0)), w 10 (.bin .lss (.l 2) (.l 0))])
   (.cond (.s 10) .skip
   (.exit 0 [f,f,f,f,f,t,f,f,f,f,f,f,f,f] 2)))
   (.seq (.block 1 (.seq (.reg [w 7 (.mv (i 0))])
   (.block 2 lockstepref06_Reach_l1)))
   (.reg [q (.mv (.s 6)), q (.bin .add (.l 0) (i 1)), w 6 (.mv (.l 0))])))
def lockstepref06_Reach_l2 : Go.A.Code := .loop [f,f,t,t,f,t,t,f,f,f,f,f,f,f] 2 lockstepref06_Reach_b2
theorem lockstepref06_Reach_l2_eq (T : Nat → Option Entry) (s : St) : exec T lockstepref06_Reach_l2 s = (exec T lockstepref06_Reach_b2 s).bind (loopK (exec T lockstepref06_Reach_l2) [f,f,t,t,f,t,t,f,f,f,f,f,f,f] 2) := exec_loop T s _ _ _
/-- lockstep/lockstepref06.Reach -/
def a_lockstepref06_Reach : Fun := { np := 3, nslots := 14, keep := 0, raw := false, results := [(4, none)], body :=
   (.seq (.reg [w 3 (.box 2 (.s 0)), w 4 (.mv (.c (.one (.f (.sl [])))))])
   (.seq (.reg [q (.fa 0 (.s 3)), q (.ld none (.l 0)), q (.len (.l 0)), q (.mks [.f (.lit (.bool false))] none (.l 0)), w 5 (.mv (.l 0))])
   (.seq (.seq (.reg [q (.mv (.s 1)), q (.mv (.s 2)), w 9 (.bin .eql (.l 1) (.l 0))])
   (.cond (.s 9) (.seq (.reg [q (.mv (.s 5)), w 4 (.mv (.l 0))])
   (.ret [f,f,f,f,t,f,f,f,f,f,f,f,f,f]))
   .skip))
   (.seq (.reg [q (.mv (.s 5)), q (.mv (.s 1)), q (.ia 1 (.l 1) (.l 0)), e (.st 1 (.l 0) (bo true))])
   (.seq (.seq (.reg [w 6 (.mv (i 0))])
   (.block 0 lockstepref06_Reach_l2))
   (.seq (.reg [q (.mv (.s 5)), w 4 (.mv (.l 0))])
   (.ret [f,f,f,f,t,f,f,f,f,f,f,f,f,f]))))))) }
def k_lockstepref06_Reach : List Go.Tmp := [0, 1, 2, 3, 6, 7, 8, 9, 10, 17, 25, 31, 47, 59]
theorem c_lockstepref06_Reach : chkFun Go.Proofs.Tryz.prog (drawsOf Go.Proofs.Tryz.prog) k_lockstepref06_Reach Go.Proofs.Tryz.f84 a_lockstepref06_Reach = true := by kernel_rfl

def lockstepref03_May_b0 : Go.A.Code :=
   (.seq (.seq (.reg [q (.mv (.s 3)), q (.fa 4 (.s 1)), q (.ld none (.l 0)), q (.len (.l 0)), w 5 (.bin .lss (.l 3) (.l 0))])
   (.cond (.s 5) .skip
   (.exit 0 [f,t,f,f,f,f,f,f] 1)))
   (.seq (.block 1 (.seq (.reg [q (.fa 4 (.s 1)), q (.ld none (.l 0)), q (.mv (.s 3)), q (.ia 1 (.l 1) (.l 0)), q (.ld none (.l 0)), q (.call .cl (.c (.one (.fn F.lockstepref03_Value [] []))) [(.l 0)]), w 6 (.un .not (.l 0))])
   (.cond (.s 6) (.seq (.reg [w 2 (.mv (bo false))])
   (.ret [f,f,t,f,f,f,f,f]))
   .skip)))
   (.reg [q (.mv (.s 3)), q (.bin .add (.l 0) (i 1)), w 3 (.mv (.l 0))])))
def lockstepref03_May_l0 : Go.A.Code := .loop [f,t,f,t,f,f,f,f] 1 lockstepref03_May_b0
theorem lockstepref03_May_l0_eq (T : Nat → Option Entry) (s : St) : exec T lockstepref03_May_l0 s = (exec T lockstepref03_May_b0 s).bind (loopK (exec T lockstepref03_May_l0) [f,t,f,t,f,f,f,f] 1) := exec_loop T s _ _ _
/-- lockstep/lockstepref03.May -/
def a_lockstepref03_May : Fun := { np := 1, nslots := 8, keep := 0, raw := false, results := [(2, none)], body :=
   (.seq (.reg [w 1 (.box 6 (.s 0)), w 2 (.mv (bo false))])
   (.seq (.seq (.reg [q (.fa 1 (.s 1)), q (.ld none (.l 0)), q (.fa 2 (.s 1)), q (.ld none (.l 0)), q (.call .cl (.c (.one (.fn F.lockstepref03_Shape [] []))) [(.l 2), (.l 0)]), q (.un .not (.l 0)), q (.mv (.l 0)), ⟨.loc, .ld (some 6) (.s 1), (some (.l 0, false))⟩, ⟨.loc, .call .cl (.c (.one (.fn F.lockstepref03_Args [] []))) [(.l 0)], (some (.l 1, false))⟩, ⟨.loc, .fa 4 (.s 1), (some (.l 2, false))⟩, ⟨.loc, .ld none (.l 0), (some (.l 3, false))⟩, ⟨.loc, .len (.l 0), (some (.l 4, false))⟩, ⟨.loc, .bin .neq (.l 3) (.l 0), (some (.l 5, false))⟩, q (.pick (.l 6) (bo true) (.l 0)), q (.mv (.l 0)), ⟨.loc, .ld (some 6) (.s 1), (some (.l 0, false))⟩, ⟨.loc, .call .cl (.c (.one (.fn F.lockstepref03_Fits [] []))) [(.l 0)], (some (.l 1, false))⟩, ⟨.loc, .un .not (.l 0), (some (.l 2, false))⟩, w 4 (.pick (.l 3) (bo true) (.l 0))])
   (.cond (.s 4) (.seq (.reg [w 2 (.mv (bo false))])
   (.ret [f,f,t,f,f,f,f,f]))
   .skip))
   (.seq (.seq (.reg [w 3 (.mv (i 0))])
   (.block 0 lockstepref03_May_l0))
   (.seq (.seq (.reg [q (.fa 0 (.s 1)), q (.ld none (.l 0)), q (.bin .eql (.l 0) (i 17)), q (.mv (.l 0)), ⟨.loc, .fa 0 (.s 1), (some (.l 0, false))⟩, ⟨.loc, .ld none (.l 0), (some (.l 1, false))⟩, ⟨.loc, .bin .eql (.l 0) (i 19), (some (.l 2, false))⟩, w 7 (.pick (.l 3) (bo true) (.l 0))])
   (.cond (.s 7) (.seq (.reg [q (.fa 3 (.s 1)), q (.ld none (.l 0)), q (.bin .eql (.l 0) (i 0)), w 2 (.mv (.l 0))])
   (.ret [f,f,t,f,f,f,f,f]))
   .skip))
   (.seq (.reg [q (.fa 3 (.s 1)), q (.ld none (.l 0)), q (.call .cl (.c (.one (.fn F.lockstepref03_Value [] []))) [(.l 0)]), w 2 (.mv (.l 0))])
   (.ret [f,f,t,f,f,f,f,f])))))) }
def k_lockstepref03_May : List Go.Tmp := [0, 1, 2, 3, 22, 27, 36, 44]
theorem c_lockstepref03_May : chkFun Go.Proofs.Tryz.prog (drawsOf Go.Proofs.Tryz.prog) k_lockstepref03_May Go.Proofs.Tryz.f85 a_lockstepref03_May = true := by kernel_rfl

/-- lockstep/lockstepref03.Gives -/
def a_lockstepref03_Gives : Fun := { np := 1, nslots := 7, keep := 0, raw := false, results := [(2, none), (3, none)], body :=
   (.seq (.reg [w 1 (.box 6 (.s 0)), w 2 (.mv (i 0)), w 3 (.mv (i 0))])
   (.seq (.seq (.reg [q (.ld (some 6) (.s 1)), q (.call .cl (.c (.one (.fn F.lockstepref03_May [] []))) [(.l 0)]), q (.un .not (.l 0)), q (.mv (.l 0)), ⟨.loc, .fa 0 (.s 1), (some (.l 0, false))⟩, ⟨.loc, .ld none (.l 0), (some (.l 1, false))⟩, ⟨.loc, .bin .eql (.l 0) (i 17), (some (.l 2, false))⟩, q (.pick (.l 3) (bo true) (.l 0)), q (.mv (.l 0)), ⟨.loc, .fa 0 (.s 1), (some (.l 0, false))⟩, ⟨.loc, .ld none (.l 0), (some (.l 1, false))⟩, ⟨.loc, .bin .eql (.l 0) (i 19), (some (.l 2, false))⟩, w 4 (.pick (.l 3) (bo true) (.l 0))])
   (.cond (.s 4) (.seq (.reg [w 2 (.mv (i 0)), w 3 (.mv (i 0))])
   (.ret [f,f,t,t,f,f,f]))
   .skip))
   (.seq (.seq (.reg [q (.fa 0 (.s 1)), q (.ld none (.l 0)), q (.bin .geq (.l 0) (i 10)), q (.mv (.l 0)), ⟨.loc, .fa 0 (.s 1), (some (.l 0, true))⟩, ⟨.loc, .ld none (.l 0), (some (.l 1, true))⟩, ⟨.loc, .bin .leq (.l 0) (i 12), (some (.l 2, true))⟩, w 5 (.pick (.l 3) (.l 0) (bo false))])
   (.cond (.s 5) (.seq (.reg [w 2 (.mv (i 1)), w 3 (.mv (i 1))])
   (.ret [f,f,t,t,f,f,f]))
   .skip))
   (.seq (.seq (.reg [q (.fa 0 (.s 1)), q (.ld none (.l 0)), w 6 (.bin .eql (.l 0) (i 22))])
   (.cond (.s 6) (.seq (.reg [q (.fa 1 (.s 1)), q (.ld none (.l 0)), w 2 (.mv (.l 0)), w 3 (.mv (i 1))])
   (.ret [f,f,t,t,f,f,f]))
   .skip))
   (.seq (.reg [q (.fa 1 (.s 1)), q (.ld none (.l 0)), q (.fa 2 (.s 1)), q (.ld none (.l 0)), w 2 (.mv (.l 2)), w 3 (.mv (.l 1))])
   (.ret [f,f,t,t,f,f,f])))))) }
def k_lockstepref03_Gives : List Go.Tmp := [0, 1, 2, 3, 16, 24, 27]
theorem c_lockstepref03_Gives : chkFun Go.Proofs.Tryz.prog (drawsOf Go.Proofs.Tryz.prog) k_lockstepref03_Gives Go.Proofs.Tryz.f86 a_lockstepref03_Gives = true := by kernel_rfl

def lockstepref03_Takes_b0 : Go.A.Code :=
   (.seq (.seq (.reg [q (.mv (.s 4)), q (.fa 4 (.s 1)), q (.ld none (.l 0)), q (.len (.l 0)), w 7 (.bin .lss (.l 3) (.l 0))])
   (.cond (.s 7) .skip
   (.exit 0 [f,f,f,t,f,f,f,f,f,f,f,f,f,f,f,f,f,f] 2)))
   (.seq (.block 1 (.seq (.reg [q (.fa 1 (.s 1)), q (.ld none (.l 0)), q (.fa 2 (.s 1)), q (.ld none (.l 0)), q (.bld [.f (.lit (.int .i64 0)), .f (.lit (.int .i64 0))] [(0, 1, (.l 2)), (1, 1, (.l 0))] []), w 5 (.al [.f (.lit (.int .i64 0)), .f (.lit (.int .i64 0))] []), e (.st 2 (.s 5) (.l 1))])
   (.seq (.seq (.reg [q (.fa 0 (.s 1)), w 8 (.ld none (.l 0))])
   (.block 2 (.seq (.seq (.reg [q (.bin .eql (.s 8) (i 13)), w 9 (.mv (.l 0))])
   (.cond (.s 9) .skip
   (.reg [q (.bin .eql (.s 8) (i 20)), w 9 (.mv (.l 0))])))
   (.cond (.s 9) (.seq (.reg [q (.mv (.s 4)), w 10 (.bin .eql (.l 0) (i 0))])
   (.cond (.s 10) (.reg [q (.bld [.f (.lit (.int .i64 0)), .f (.lit (.int .i64 0))] [(0, 1, (i 1)), (1, 1, (i 1))] []), e (.st 2 (.s 5) (.l 0))])
   .skip))
   (.seq (.seq (.reg [q (.bin .eql (.s 8) (i 14)), w 11 (.mv (.l 0))])
   (.cond (.s 11) .skip
   (.reg [q (.bin .eql (.s 8) (i 15)), w 11 (.mv (.l 0))])))
   (.cond (.s 11) (.reg [q (.fa 5 (.s 1)), q (.ld none (.l 0)), q (.conv .i64 (.l 0)), q (.bld [.f (.lit (.int .i64 0)), .f (.lit (.int .i64 0))] [(0, 1, (.l 0)), (1, 1, (i 1))] []), e (.st 2 (.s 5) (.l 0))])
   (.seq (.seq (.reg [q (.bin .eql (.s 8) (i 16)), w 12 (.mv (.l 0))])
   (.cond (.s 12) .skip
   (.reg [q (.bin .eql (.s 8) (i 17)), w 12 (.mv (.l 0))])))
   (.cond (.s 12) (.seq (.reg [q (.mv (.s 4)), w 13 (.bin .eql (.l 0) (i 0))])
   (.cond (.s 13) (.reg [q (.bld [.f (.lit (.int .i64 0)), .f (.lit (.int .i64 0))] [(0, 1, (i 64)), (1, 1, (i 1))] []), e (.st 2 (.s 5) (.l 0))])
   .skip))
   (.seq (.seq (.reg [q (.bin .eql (.s 8) (i 18)), w 14 (.mv (.l 0))])
   (.cond (.s 14) .skip
   (.reg [q (.bin .eql (.s 8) (i 19)), w 14 (.mv (.l 0))])))
   (.cond (.s 14) (.seq (.seq (.reg [q (.mv (.s 4)), w 15 (.bin .eql (.l 0) (i 0))])
   (.cond (.s 15) (.reg [q (.bld [.f (.lit (.int .i64 0)), .f (.lit (.int .i64 0))] [(0, 1, (i 1)), (1, 1, (i 1))] []), e (.st 2 (.s 5) (.l 0))])
   .skip))
   (.seq (.reg [q (.mv (.s 4)), w 16 (.bin .eql (.l 0) (i 1))])
   (.cond (.s 16) (.reg [q (.bld [.f (.lit (.int .i64 0)), .f (.lit (.int .i64 0))] [(0, 1, (i 64)), (1, 1, (i 1))] []), e (.st 2 (.s 5) (.l 0))])
   .skip)))
   (.seq (.reg [q (.bin .eql (.s 8) (i 21)), w 17 (.mv (.l 0))])
   (.cond (.s 17) (.reg [q (.fa 1 (.s 1)), q (.ld none (.l 0)), q (.bld [.f (.lit (.int .i64 0)), .f (.lit (.int .i64 0))] [(0, 1, (.l 0)), (1, 1, (i 1))] []), e (.st 2 (.s 5) (.l 0))])
   .skip))))))))))))
   (.reg [q (.mv (.s 3)), q (.ld (some 2) (.s 5)), q (.bsl .fz 2 [[.f (.lit (.int .i64 0)), .f (.lit (.int .i64 0))]] [(0, (.l 0))]), q (.app 2 (.l 2) (.l 0)), w 3 (.mv (.l 0))]))))
   (.reg [q (.mv (.s 4)), q (.bin .add (.l 0) (i 1)), w 4 (.mv (.l 0))])))
def lockstepref03_Takes_l0 : Go.A.Code := .loop [f,t,f,t,t,f,f,f,f,f,f,f,f,f,f,f,f,f] 2 lockstepref03_Takes_b0
theorem lockstepref03_Takes_l0_eq (T : Nat → Option Entry) (s : St) : exec T lockstepref03_Takes_l0 s = (exec T lockstepref03_Takes_b0 s).bind (loopK (exec T lockstepref03_Takes_l0) [f,t,f,t,t,f,f,f,f,f,f,f,f,f,f,f,f,f] 2) := exec_loop T s _ _ _
/-- lockstep/lockstepref03.Takes -/
def a_lockstepref03_Takes : Fun := { np := 1, nslots := 18, keep := 0, raw := false, results := [(2, none)], body :=
   (.seq (.reg [w 1 (.box 6 (.s 0)), w 2 (.mv (.c (.one (.f (.sl [])))))])
   (.seq (.reg [w 3 (.nl .tk 2)])
   (.seq (.seq (.reg [q (.ld (some 6) (.s 1)), q (.call .cl (.c (.one (.fn F.lockstepref03_May [] []))) [(.l 0)]), w 6 (.un .not (.l 0))])
   (.cond (.s 6) (.seq (.reg [w 2 (.mv (.c (.one (.f (.sl [])))))])
   (.ret [f,f,t,f,f,f,f,f,f,f,f,f,f,f,f,f,f,f]))
   .skip))
   (.seq (.seq (.reg [w 4 (.mv (i 0))])
   (.block 0 lockstepref03_Takes_l0))
   (.seq (.reg [q (.mv (.s 3)), w 2 (.mv (.l 0))])
   (.ret [f,f,t,f,f,f,f,f,f,f,f,f,f,f,f,f,f,f])))))) }
def k_lockstepref03_Takes : List Go.Tmp := [0, 1, 2, 3, 4, 5, 8, 13, 22, 23, 27, 29, 36, 40, 42, 46, 49, 51]
theorem c_lockstepref03_Takes : chkFun Go.Proofs.Tryz.prog (drawsOf Go.Proofs.Tryz.prog) k_lockstepref03_Takes Go.Proofs.Tryz.f87 a_lockstepref03_Takes = true := by kernel_rfl

def lockstepref06_Has_b0 : Go.A.Code :=
   (.seq (.seq (.reg [q (.mv (.s 3)), q (.mv (.s 0)), q (.len (.l 0)), w 4 (.bin .lss (.l 2) (.l 0))])
   (.cond (.s 4) .skip
   (.exit 0 [f,f,f,f,f,f] 0)))
   (.seq (.block 1 (.seq (.reg [q (.mv (.s 0)), q (.mv (.s 3)), q (.ia 1 (.l 1) (.l 0)), q (.ld none (.l 0)), q (.mv (.s 1)), w 5 (.bin .eql (.l 1) (.l 0))])
   (.cond (.s 5) (.seq (.reg [w 2 (.mv (bo true))])
   (.ret [f,f,t,f,f,f]))
   .skip)))
   (.reg [q (.mv (.s 3)), q (.bin .add (.l 0) (i 1)), w 3 (.mv (.l 0))])))
def lockstepref06_Has_l0 : Go.A.Code := .loop [t,t,f,t,f,f] 0 lockstepref06_Has_b0
theorem lockstepref06_Has_l0_eq (T : Nat → Option Entry) (s : St) : exec T lockstepref06_Has_l0 s = (exec T lockstepref06_Has_b0 s).bind (loopK (exec T lockstepref06_Has_l0) [t,t,f,t,f,f] 0) := exec_loop T s _ _ _
/-- lockstep/lockstepref06.Has -/
def a_lockstepref06_Has : Fun := { np := 2, nslots := 6, keep := 0, raw := false, results := [(2, none)], body :=
   (.seq (.reg [w 2 (.mv (bo false))])
   (.seq (.seq (.reg [w 3 (.mv (i 0))])
   (.block 0 lockstepref06_Has_l0))
   (.seq (.reg [w 2 (.mv (bo false))])
   (.ret [f,f,t,f,f,f])))) }
def k_lockstepref06_Has : List Go.Tmp := [0, 1, 4, 5, 9, 17]
theorem c_lockstepref06_Has : chkFun Go.Proofs.Tryz.prog (drawsOf Go.Proofs.Tryz.prog) k_lockstepref06_Has Go.Proofs.Tryz.f88 a_lockstepref06_Has = true := by kernel_rfl

def lockstepref06_Make_b0 : Go.A.Code :=
   (.seq (.seq (.reg [q (.mv (.s 5)), q (.mv (.s 0)), q (.mv (.s 4)), q (.ia 1 (.l 1) (.l 0)), q (.ld none (.l 0)), q (.len (.l 0)), w 11 (.bin .lss (.l 5) (.l 0))])
   (.cond (.s 11) .skip
   (.exit 2 [t,t,f,t,t,f,f,f,f,f,f,f,f,f,f,f] 1)))
   (.seq (.block 3 (.seq (.reg [q (.mv (.s 0)), q (.mv (.s 4)), q (.ia 1 (.l 1) (.l 0)), q (.ld none (.l 0)), q (.mv (.s 5)), q (.ia 1 (.l 1) (.l 0)), q (.ld none (.l 0)), q (.bin .lss (.l 0) (i 0)), q (.mv (.l 0)), ⟨.loc, .mv (.s 0), (some (.l 0, false))⟩, ⟨.loc, .mv (.s 4), (some (.l 1, false))⟩, ⟨.loc, .ia 1 (.l 1) (.l 0), (some (.l 2, false))⟩, ⟨.loc, .ld none (.l 0), (some (.l 3, false))⟩, ⟨.loc, .mv (.s 5), (some (.l 4, false))⟩, ⟨.loc, .ia 1 (.l 1) (.l 0), (some (.l 5, false))⟩, ⟨.loc, .ld none (.l 0), (some (.l 6, false))⟩, ⟨.loc, .mv (.s 3), (some (.l 7, false))⟩, ⟨.loc, .bin .geq (.l 1) (.l 0), (some (.l 8, false))⟩, q (.pick (.l 9) (bo true) (.l 0)), q (.mv (.l 0)), ⟨.loc, .mv (.s 5), (some (.l 0, false))⟩, ⟨.loc, .bin .gtr (.l 0) (i 0), (some (.l 1, false))⟩, ⟨.loc, .mv (.l 0), (some (.l 2, false))⟩, ⟨.loc, .mv (.s 0), (some (.l 0, true))⟩, ⟨.loc, .mv (.s 4), (some (.l 1, true))⟩, ⟨.loc, .ia 1 (.l 1) (.l 0), (some (.l 2, true))⟩, ⟨.loc, .ld none (.l 0), (some (.l 3, true))⟩, ⟨.loc, .mv (.s 5), (some (.l 4, true))⟩, ⟨.loc, .ia 1 (.l 1) (.l 0), (some (.l 5, true))⟩, ⟨.loc, .ld none (.l 0), (some (.l 6, true))⟩, ⟨.loc, .mv (.s 0), (some (.l 7, true))⟩, ⟨.loc, .mv (.s 4), (some (.l 8, true))⟩, ⟨.loc, .ia 1 (.l 1) (.l 0), (some (.l 9, true))⟩, ⟨.loc, .ld none (.l 0), (some (.l 10, true))⟩, ⟨.loc, .mv (.s 5), (some (.l 11, true))⟩, ⟨.loc, .bin .sub (.l 0) (i 1), (some (.l 12, true))⟩, ⟨.loc, .ia 1 (.l 2) (.l 0), (some (.l 13, true))⟩, ⟨.loc, .ld none (.l 0), (some (.l 14, true))⟩, ⟨.loc, .bin .leq (.l 8) (.l 0), (some (.l 15, true))⟩, ⟨.loc, .pick (.l 16) (.l 0) (bo false), (some (.l 19, false))⟩, w 12 (.pick (.l 20) (bo true) (.l 0))])
   (.cond (.s 12) (.seq (.reg [q (.bld [.f (.sl []), .f (.sl [])] [] []), e (.st 2 (.s 1) (.l 0)), w 2 (.mv (i 5))])
   (.ret [f,t,t,f,f,f,f,f,f,f,f,f,f,f,f,f]))
   .skip)))
   (.reg [q (.mv (.s 5)), q (.bin .add (.l 0) (i 1)), w 5 (.mv (.l 0))])))
def lockstepref06_Make_l0 : Go.A.Code := .loop [t,t,f,t,t,t,f,f,f,f,f,f,f,f,f,f] 1 lockstepref06_Make_b0
theorem lockstepref06_Make_l0_eq (T : Nat → Option Entry) (s : St) : exec T lockstepref06_Make_l0 s = (exec T lockstepref06_Make_b0 s).bind (loopK (exec T lockstepref06_Make_l0) [t,t,f,t,t,t,f,f,f,f,f,f,f,f,f,f] 1) := exec_loop T s _ _ _
def lockstepref06_Make_b1 : Go.A.Code :=
   (.seq (.seq (.reg [q (.mv (.s 4)), q (.mv (.s 3)), w 10 (.bin .lss (.l 1) (.l 0))])
   (.cond (.s 10) .skip
   (.exit 0 [t,t,f,t,f,f,f,f,f,f,f,f,f,f,f,f] 1)))
   (.seq (.block 1 (.seq (.reg [w 5 (.mv (i 0))])
   (.block 2 lockstepref06_Make_l0)))
   (.reg [q (.mv (.s 4)), q (.bin .add (.l 0) (i 1)), w 4 (.mv (.l 0))])))
def lockstepref06_Make_l1 : Go.A.Code := .loop [t,t,f,t,t,f,f,f,f,f,f,f,f,f,f,f] 1 lockstepref06_Make_b1
theorem lockstepref06_Make_l1_eq (T : Nat → Option Entry) (s : St) : exec T lockstepref06_Make_l1 s = (exec T lockstepref06_Make_b1 s).bind (loopK (exec T lockstepref06_Make_l1) [t,t,f,t,t,f,f,f,f,f,f,f,f,f,f,f] 1) := exec_loop T s _ _ _
def lockstepref06_Make_b2 : Go.A.Code :=
   (.seq (.seq (.reg [q (.mv (.s 8)), q (.mv (.s 3)), w 14 (.bin .lss (.l 1) (.l 0))])
   (.cond (.s 14) .skip
   (.exit 6 [t,t,f,t,f,f,t,t,f,f,f,f,f,f,f,f] 4)))
   (.seq (.block 7 (.seq (.reg [q (.mv (.s 0)), q (.mv (.s 8)), q (.ia 1 (.l 1) (.l 0)), q (.ld none (.l 0)), q (.mv (.s 7)), w 15 (.call .cl (.c (.one (.fn F.lockstepref06_Has [] []))) [(.l 1), (.l 0)])])
   (.cond (.s 15) (.regd [(1, 11)] [q (.fa 1 (.s 6)), q (.ld none (.l 0)), q (.mv (.s 7)), q (.fa 1 (.s 6)), q (.ld none (.l 0)), q (.mv (.s 7)), q (.ia 1 (.l 1) (.l 0)), q (.ld none (.l 0)), q (.mv (.s 8)), q (.bsl .fz 1 [[.f (.lit (.int .i64 0))]] [(0, (.l 0))]), q (.app 1 (.l 2) (.l 0)), q (.ia 1 (.l 9) (.l 8)), e (.st 1 (.l 0) (.l 1))])
   .skip)))
   (.reg [q (.mv (.s 8)), q (.bin .add (.l 0) (i 1)), w 8 (.mv (.l 0))])))
def lockstepref06_Make_l2 : Go.A.Code := .loop [t,t,f,t,f,f,t,t,t,f,f,f,f,f,f,f] 4 lockstepref06_Make_b2
theorem lockstepref06_Make_l2_eq (T : Nat → Option Entry) (s : St) : exec T lockstepref06_Make_l2 s = (exec T lockstepref06_Make_b2 s).bind (loopK (exec T lockstepref06_Make_l2) [t,t,f,t,f,f,t,t,t,f,f,f,f,f,f,f] 4) := exec_loop T s _ _ _
def lockstepref06_Make_b3 : Go.A.Code :=
   (.seq (.seq (.reg [q (.mv (.s 7)), q (.mv (.s 3)), w 13 (.bin .lss (.l 1) (.l 0))])
   (.cond (.s 13) .skip
   (.exit 4 [f,t,f,f,f,f,t,f,f,f,f,f,f,f,f,f] 4)))
   (.seq (.block 5 (.seq (.reg [w 8 (.mv (i 0))])
   (.block 6 lockstepref06_Make_l2)))
   (.reg [q (.mv (.s 7)), q (.bin .add (.l 0) (i 1)), w 7 (.mv (.l 0))])))
def lockstepref06_Make_l3 : Go.A.Code := .loop [t,t,f,t,f,f,t,t,f,f,f,f,f,f,f,f] 4 lockstepref06_Make_b3
theorem lockstepref06_Make_l3_eq (T : Nat → Option Entry) (s : St) : exec T lockstepref06_Make_l3 s = (exec T lockstepref06_Make_b3 s).bind (loopK (exec T lockstepref06_Make_l3) [t,t,f,t,f,f,t,t,f,f,f,f,f,f,f,f] 4) := exec_loop T s _ _ _
/-- lockstep/lockstepref06.Make -/
def a_lockstepref06_Make : Fun := { np := 1, nslots := 16, keep := 0, raw := false, results := [(1, some (some 2)), (2, none)], body :=
   (.seq (.reg [w 1 (.al [.f (.sl []), .f (.sl [])] []), w 2 (.mv (i 0))])
   (.seq (.reg [q (.mv (.s 0)), q (.len (.l 0)), w 3 (.mv (.l 0))])
   (.seq (.seq (.reg [q (.mv (.s 3)), q (.bin .eql (.l 0) (i 0)), q (.mv (.l 0)), ⟨.loc, .mv (.s 3), (some (.l 0, false))⟩, ⟨.loc, .bin .gtr (.l 0) (i 64), (some (.l 1, false))⟩, w 9 (.pick (.l 2) (bo true) (.l 0))])
   (.cond (.s 9) (.seq (.reg [q (.bld [.f (.sl []), .f (.sl [])] [] []), e (.st 2 (.s 1) (.l 0)), w 2 (.mv (i 5))])
   (.ret [f,t,t,f,f,f,f,f,f,f,f,f,f,f,f,f]))
   .skip))
   (.seq (.seq (.reg [w 4 (.mv (i 0))])
   (.block 0 lockstepref06_Make_l1))
   (.seq (.reg [q (.mv (.s 0)), q (.mv (.s 3)), q (.mks [.f (.sl [])] (some (0, 1)) (.l 0)), q (.bld [.f (.sl []), .f (.sl [])] [(0, 1, (.l 2)), (1, 1, (.l 0))] []), w 6 (.al [.f (.sl []), .f (.sl [])] []), e (.st 2 (.s 6) (.l 1))])
   (.seq (.seq (.reg [w 7 (.mv (i 0))])
   (.block 4 lockstepref06_Make_l3))
   (.seq (.reg [q (.ld (some 2) (.s 6)), e (.st 2 (.s 1) (.l 0)), w 2 (.mv (i 0))])
   (.ret [f,t,t,f,f,f,f,f,f,f,f,f,f,f,f,f])))))))) }
def k_lockstepref06_Make : List Go.Tmp := [0, 2, 3, 4, 5, 6, 7, 8, 9, 17, 21, 30, 73, 81, 86, 94]
theorem c_lockstepref06_Make : chkFun Go.Proofs.Tryz.prog (drawsOf Go.Proofs.Tryz.prog) k_lockstepref06_Make Go.Proofs.Tryz.f89 a_lockstepref06_Make = true := by kernel_rfl

/-- lockstep/lockstepref06.May -/
def a_lockstepref06_May : Fun := { np := 1, nslots := 5, keep := 0, raw := false, results := [(2, none)], body :=
   (.seq (.reg [w 1 (.box 2 (.s 0)), w 2 (.mv (bo false))])
   (.seq (.reg [q (.fa 0 (.s 1)), q (.ld none (.l 0)), q (.call .cl (.c (.one (.fn F.lockstepref06_Make [] []))) [(.l 0)]), q (.mv (.l 0)), q (.ext (.l 0) 0), q (.ext (.l 1) 1), w 3 (.al [.f (.sl []), .f (.sl [])] []), e (.st 2 (.s 3) (.l 2)), w 4 (.mv (.l 2))])
   (.seq (.reg [q (.mv (.s 4)), q (.bin .eql (.l 0) (i 0)), q (.mv (.l 0)), ⟨.loc, .ld (some 2) (.s 3), (some (.l 0, true))⟩, ⟨.loc, .ld (some 2) (.s 1), (some (.l 1, true))⟩, ⟨.loc, .call .cl (.c (.one (.fn F.lockstepref06_Same [] []))) [(.l 1), (.l 0)], (some (.l 2, true))⟩, q (.pick (.l 3) (.l 0) (bo false)), w 2 (.mv (.l 0))])
   (.ret [f,f,t,f,f])))) }
def k_lockstepref06_May : List Go.Tmp := [0, 1, 2, 3, 4]
theorem c_lockstepref06_May : chkFun Go.Proofs.Tryz.prog (drawsOf Go.Proofs.Tryz.prog) k_lockstepref06_May Go.Proofs.Tryz.f90 a_lockstepref06_May = true := by kernel_rfl

def lockstepref07_Right_b0 : Go.A.Code :=
   (.seq (.seq (.reg [q (.mv (.s 3)), q (.mv (.s 0)), q (.len (.l 0)), w 4 (.bin .lss (.l 2) (.l 0))])
   (.cond (.s 4) .skip
   (.exit 0 [f,f,t,f,f,f,f] 0)))
   (.seq (.block 1 (.seq (.seq (.reg [q (.mv (.s 0)), q (.mv (.s 3)), q (.ia 1 (.l 1) (.l 0)), q (.ld none (.l 0)), w 5 (.bin .eql (.l 0) (i (-1)))])
   (.cond (.s 5) (.reg [q (.mv (.s 2)), q (.bin .add (.l 0) (i 1)), w 2 (.mv (.l 0))])
   .skip))
   (.seq (.reg [q (.mv (.s 0)), q (.mv (.s 3)), q (.ia 1 (.l 1) (.l 0)), q (.ld none (.l 0)), q (.bin .neq (.l 0) (i (-2))), q (.mv (.l 0)), ⟨.loc, .mv (.s 0), (some (.l 0, true))⟩, ⟨.loc, .mv (.s 3), (some (.l 1, true))⟩, ⟨.loc, .call .cl (.c (.one (.fn F.lockstepref07_Path [] []))) [(.l 1), (.l 0)], (some (.l 2, true))⟩, ⟨.loc, .len (.l 0), (some (.l 3, true))⟩, ⟨.loc, .bin .eql (.l 0) (i 0), (some (.l 4, true))⟩, w 6 (.pick (.l 5) (.l 0) (bo false))])
   (.cond (.s 6) (.seq (.reg [w 1 (.mv (bo false))])
   (.ret [f,t,f,f,f,f,f]))
   .skip))))
   (.reg [q (.mv (.s 3)), q (.bin .add (.l 0) (i 1)), w 3 (.mv (.l 0))])))
def lockstepref07_Right_l0 : Go.A.Code := .loop [t,f,t,t,f,f,f] 0 lockstepref07_Right_b0
theorem lockstepref07_Right_l0_eq (T : Nat → Option Entry) (s : St) : exec T lockstepref07_Right_l0 s = (exec T lockstepref07_Right_b0 s).bind (loopK (exec T lockstepref07_Right_l0) [t,f,t,t,f,f,f] 0) := exec_loop T s _ _ _
/-- lockstep/lockstepref07.Right -/
def a_lockstepref07_Right : Fun := { np := 1, nslots := 7, keep := 0, raw := false, results := [(1, none)], body :=
   (.seq (.reg [w 1 (.mv (bo false))])
   (.seq (.reg [w 2 (.mv (i 0))])
   (.seq (.seq (.reg [w 3 (.mv (i 0))])
   (.block 0 lockstepref07_Right_l0))
   (.seq (.reg [q (.mv (.s 2)), q (.bin .eql (.l 0) (i 1)), w 1 (.mv (.l 0))])
   (.ret [f,t,f,f,f,f,f]))))) }
def k_lockstepref07_Right : List Go.Tmp := [0, 2, 3, 4, 8, 15, 29]
theorem c_lockstepref07_Right : chkFun Go.Proofs.Tryz.prog (drawsOf Go.Proofs.Tryz.prog) k_lockstepref07_Right Go.Proofs.Tryz.f91 a_lockstepref07_Right = true := by kernel_rfl

def lockstepref07_Path_b0 : Go.A.Code :=
   (.seq (.seq (.reg [q (.mv (.s 3)), q (.len (.l 0)), q (.mv (.s 0)), q (.len (.l 0)), q (.bin .lss (.l 2) (.l 0)), q (.mv (.l 0)), ⟨.loc, .mv (.s 1), (some (.l 0, true))⟩, ⟨.loc, .bin .geq (.l 0) (i 0), (some (.l 1, true))⟩, q (.pick (.l 2) (.l 0) (bo false)), q (.mv (.l 0)), ⟨.loc, .mv (.s 1), (some (.l 0, true))⟩, ⟨.loc, .mv (.s 0), (some (.l 1, true))⟩, ⟨.loc, .len (.l 0), (some (.l 2, true))⟩, ⟨.loc, .bin .lss (.l 2) (.l 0), (some (.l 3, true))⟩, w 4 (.pick (.l 4) (.l 0) (bo false))])
   (.cond (.s 4) .skip
   (.exit 0 [f,f,f,f,f,f] 1)))
   (.block 1 (.seq (.reg [q (.mv (.s 3)), q (.mv (.s 1)), q (.bsl .fz 1 [[.f (.lit (.int .i64 0))]] [(0, (.l 0))]), q (.app 1 (.l 2) (.l 0)), w 3 (.mv (.l 0))])
   (.seq (.seq (.reg [q (.mv (.s 0)), q (.mv (.s 1)), q (.ia 1 (.l 1) (.l 0)), q (.ld none (.l 0)), w 5 (.bin .eql (.l 0) (i (-1)))])
   (.cond (.s 5) (.seq (.reg [q (.mv (.s 3)), w 2 (.mv (.l 0))])
   (.ret [f,f,t,f,f,f]))
   .skip))
   (.reg [q (.mv (.s 0)), q (.mv (.s 1)), q (.ia 1 (.l 1) (.l 0)), q (.ld none (.l 0)), w 1 (.mv (.l 0))])))))
def lockstepref07_Path_l0 : Go.A.Code := .loop [t,t,f,t,f,f] 1 lockstepref07_Path_b0
theorem lockstepref07_Path_l0_eq (T : Nat → Option Entry) (s : St) : exec T lockstepref07_Path_l0 s = (exec T lockstepref07_Path_b0 s).bind (loopK (exec T lockstepref07_Path_l0) [t,t,f,t,f,f] 1) := exec_loop T s _ _ _
/-- lockstep/lockstepref07.Path -/
def a_lockstepref07_Path : Fun := { np := 2, nslots := 6, keep := 0, raw := false, results := [(2, none)], body :=
   (.seq (.reg [w 2 (.mv (.c (.one (.f (.sl [])))))])
   (.seq (.reg [w 3 (.nl .tk 1)])
   (.seq (.block 0 lockstepref07_Path_l0)
   (.seq (.reg [w 2 (.mv (.c (.one (.f (.sl [])))))])
   (.ret [f,f,t,f,f,f]))))) }
def k_lockstepref07_Path : List Go.Tmp := [0, 1, 4, 5, 20, 29]
theorem c_lockstepref07_Path : chkFun Go.Proofs.Tryz.prog (drawsOf Go.Proofs.Tryz.prog) k_lockstepref07_Path Go.Proofs.Tryz.f92 a_lockstepref07_Path = true := by kernel_rfl

def slices_IndexFunc_int_b0 : Go.A.Code :=
   (.seq (.reg [w 6 (.bin .lss (.s 5) (.s 4))])
   (.seq (.cond (.s 6) .skip
   (.exit 0 [f,f,f,f,f,f,f,f] 0))
   (.seq (.block 1 (.seq (.reg [q (.mv (.s 5)), w 3 (.mv (.l 0))])
   (.seq (.reg [q (.mv (.s 1)), q (.mv (.s 0)), q (.mv (.s 3)), q (.ia 1 (.l 1) (.l 0)), q (.ld none (.l 0)), w 7 (.call .op (.l 4) [(.l 0)])])
   (.cond (.s 7) (.seq (.reg [q (.mv (.s 3)), w 2 (.mv (.l 0))])
   (.ret [f,f,t,f,f,f,f,f]))
   .skip))))
   (.reg [q (.bin .add (.s 5) (i 1)), w 5 (.mv (.l 0))]))))
def slices_IndexFunc_int_l0 : Go.A.Code := .loop [t,t,f,f,t,t,f,f] 0 slices_IndexFunc_int_b0
theorem slices_IndexFunc_int_l0_eq (T : Nat → Option Entry) (s : St) : exec T slices_IndexFunc_int_l0 s = (exec T slices_IndexFunc_int_b0 s).bind (loopK (exec T slices_IndexFunc_int_l0) [t,t,f,f,t,t,f,f] 0) := exec_loop T s _ _ _
/-- slices.IndexFunc[[]int,int] -/
def a_slices_IndexFunc_int : Fun := { np := 2, nslots := 8, keep := 0, raw := false, results := [(2, none)], body :=
   (.seq (.reg [w 2 (.mv (i 0))])
   (.seq (.seq (.reg [q (.mv (.s 0)), w 4 (.len (.l 0)), w 5 (.mv (i 0))])
   (.block 0 slices_IndexFunc_int_l0))
   (.seq (.reg [w 2 (.mv (i (-1)))])
   (.ret [f,f,t,f,f,f,f,f])))) }
def k_slices_IndexFunc_int : List Go.Tmp := [0, 1, 4, 5, 7, 8, 9, 16]
theorem c_slices_IndexFunc_int : chkFun Go.Proofs.Tryz.prog (drawsOf Go.Proofs.Tryz.prog) k_slices_IndexFunc_int Go.Proofs.Tryz.f95 a_slices_IndexFunc_int = true := by kernel_rfl

def slices_Equal_int_b0 : Go.A.Code :=
   (.seq (.reg [w 7 (.bin .lss (.s 6) (.s 5))])
   (.seq (.cond (.s 7) .skip
   (.exit 0 [f,f,f,f,f,f,f,f,f] 0))
   (.seq (.block 1 (.seq (.reg [q (.mv (.s 6)), w 3 (.mv (.l 0))])
   (.seq (.reg [q (.mv (.s 0)), q (.mv (.s 3)), q (.ia 1 (.l 1) (.l 0)), q (.ld none (.l 0)), q (.mv (.s 1)), q (.mv (.s 3)), q (.ia 1 (.l 1) (.l 0)), q (.ld none (.l 0)), w 8 (.bin .neq (.l 4) (.l 0))])
   (.cond (.s 8) (.seq (.reg [w 2 (.mv (bo false))])
   (.ret [f,f,t,f,f,f,f,f,f]))
   .skip))))
   (.reg [q (.bin .add (.s 6) (i 1)), w 6 (.mv (.l 0))]))))
def slices_Equal_int_l0 : Go.A.Code := .loop [t,t,f,f,f,t,t,f,f] 0 slices_Equal_int_b0
theorem slices_Equal_int_l0_eq (T : Nat → Option Entry) (s : St) : exec T slices_Equal_int_l0 s = (exec T slices_Equal_int_b0 s).bind (loopK (exec T slices_Equal_int_l0) [t,t,f,f,f,t,t,f,f] 0) := exec_loop T s _ _ _
/-- slices.Equal[[]int,int] -/
def a_slices_Equal_int : Fun := { np := 2, nslots := 9, keep := 0, raw := false, results := [(2, none)], body :=
   (.seq (.reg [w 2 (.mv (bo false))])
   (.seq (.seq (.reg [q (.mv (.s 0)), q (.len (.l 0)), q (.mv (.s 1)), q (.len (.l 0)), w 4 (.bin .neq (.l 2) (.l 0))])
   (.cond (.s 4) (.seq (.reg [w 2 (.mv (bo false))])
   (.ret [f,f,t,f,f,f,f,f,f]))
   .skip))
   (.seq (.seq (.reg [q (.mv (.s 0)), w 5 (.len (.l 0)), w 6 (.mv (i 0))])
   (.block 0 slices_Equal_int_l0))
   (.seq (.reg [w 2 (.mv (bo true))])
   (.ret [f,f,t,f,f,f,f,f,f]))))) }
def k_slices_Equal_int : List Go.Tmp := [0, 1, 4, 5, 10, 12, 13, 14, 24]
theorem c_slices_Equal_int : chkFun Go.Proofs.Tryz.prog (drawsOf Go.Proofs.Tryz.prog) k_slices_Equal_int Go.Proofs.Tryz.f96 a_slices_Equal_int = true := by kernel_rfl

/-- lockstep/code.May -/
def a_code_May : Fun := { np := 1, nslots := 4, keep := 0, raw := false, results := [(2, none)], body :=
   (.seq (.reg [w 1 (.box 3 (.s 0)), w 2 (.mv (bo false))])
   (.seq (.seq (.reg [q (.fa 2 (.s 1)), q (.ld none (.l 0)), q (.len (.l 0)), q (.bin .lss (.l 0) (i 1)), q (.mv (.l 0)), ⟨.loc, .fa 2 (.s 1), (some (.l 0, false))⟩, ⟨.loc, .ld none (.l 0), (some (.l 1, false))⟩, ⟨.loc, .len (.l 0), (some (.l 2, false))⟩, ⟨.loc, .bin .gtr (.l 0) (i 64), (some (.l 3, false))⟩, q (.pick (.l 4) (bo true) (.l 0)), q (.mv (.l 0)), ⟨.loc, .fa 0 (.s 1), (some (.l 0, false))⟩, ⟨.loc, .ld none (.l 0), (some (.l 1, false))⟩, ⟨.loc, .len (.l 0), (some (.l 2, false))⟩, ⟨.loc, .bin .gtr (.l 0) (i 16), (some (.l 3, false))⟩, q (.pick (.l 4) (bo true) (.l 0)), q (.mv (.l 0)), ⟨.loc, .ld (some 3) (.s 1), (some (.l 0, false))⟩, ⟨.loc, .call .cl (.c (.one (.fn F.code_Size [] []))) [(.l 0)], (some (.l 1, false))⟩, ⟨.loc, .bin .gtr (.l 0) (i 512), (some (.l 2, false))⟩, q (.pick (.l 3) (bo true) (.l 0)), q (.mv (.l 0)), ⟨.loc, .fa 1 (.s 1), (some (.l 0, false))⟩, ⟨.loc, .ld none (.l 0), (some (.l 1, false))⟩, ⟨.loc, .bsl .fz 1 [[.f (.lit (.int .i64 0))]] [(0, (.l 0))], (some (.l 2, false))⟩, ⟨.loc, .call .cl (.c (.one (.fn F.code_in [] []))) [(.l 0)], (some (.l 3, false))⟩, ⟨.loc, .un .not (.l 0), (some (.l 4, false))⟩, q (.pick (.l 5) (bo true) (.l 0)), q (.mv (.l 0)), ⟨.loc, .fa 0 (.s 1), (some (.l 0, false))⟩, ⟨.loc, .ld none (.l 0), (some (.l 1, false))⟩, ⟨.loc, .call .cl (.c (.one (.fn F.code_in [] []))) [(.l 0)], (some (.l 2, false))⟩, ⟨.loc, .un .not (.l 0), (some (.l 3, false))⟩, w 3 (.pick (.l 4) (bo true) (.l 0))])
   (.cond (.s 3) (.seq (.reg [w 2 (.mv (bo false))])
   (.ret [f,f,t,f]))
   .skip))
   (.seq (.reg [q (.fa 2 (.s 1)), q (.ld none (.l 0)), q (.call .op (.c (.one (.fn F.slices_ContainsFunc_Block [] []))) [(.l 0), (.c (.one (.fn F.code_May_1 [] [])))]), q (.un .not (.l 0)), w 2 (.mv (.l 0))])
   (.ret [f,f,t,f])))) }
def k_code_May : List Go.Tmp := [0, 1, 2, 36]
theorem c_code_May : chkFun Go.Proofs.Tryz.prog (drawsOf Go.Proofs.Tryz.prog) k_code_May Go.Proofs.Tryz.f106 a_code_May = true := by kernel_rfl

def check_checker_shape_b0 : Go.A.Code :=
   (.seq (.reg [w 16 (.bin .lss (.s 15) (.s 14))])
   (.seq (.cond (.s 16) .skip
   (.exit 2 [t,f,t,f,f,t,f,f,t,t,t,f,f,f,f,f,f,f,f] 2))
   (.seq (.block 3 (.seq (.reg [q (.ia 4 (.s 13) (.s 15)), q (.ld (some 4) (.l 0)), w 6 (.al [.f (.lit (.int .i64 0)), .f (.lit (.int .i64 0)), .f (.sl []), .f (.sl [])] []), e (.st 4 (.s 6) (.l 1))])
   (.seq (.reg [q (.fa 2 (.s 6)), q (.ld none (.l 0)), q (.fa 1 (.s 2)), q (.ld none (.l 0)), q (.mv (.s 4)), q (.ia 1 (.l 1) (.l 0)), q (.ld none (.l 0)), q (.call .cl (.c (.one (.fn F.slices_Equal_int [] []))) [(.l 5), (.l 0)]), q (.un .not (.l 0)), q (.mv (.l 0)), ⟨.loc, .fa 3 (.s 6), (some (.l 0, false))⟩, ⟨.loc, .ld none (.l 0), (some (.l 1, false))⟩, ⟨.loc, .len (.l 0), (some (.l 2, false))⟩, ⟨.loc, .fa 2 (.s 6), (some (.l 3, false))⟩, ⟨.loc, .ld none (.l 0), (some (.l 4, false))⟩, ⟨.loc, .len (.l 0), (some (.l 5, false))⟩, ⟨.loc, .bin .neq (.l 3) (.l 0), (some (.l 6, false))⟩, w 17 (.pick (.l 7) (bo true) (.l 0))])
   (.cond (.s 17) (.seq (.reg [w 1 (.mv (i 5))])
   (.ret [f,t,f,f,f,f,f,f,f,f,f,f,f,f,f,f,f,f,f]))
   .skip))))
   (.reg [q (.bin .add (.s 15) (i 1)), w 15 (.mv (.l 0))]))))
def check_checker_shape_l0 : Go.A.Code := .loop [t,f,t,f,t,t,f,f,t,t,t,f,f,t,t,t,f,f,f] 2 check_checker_shape_b0
theorem check_checker_shape_l0_eq (T : Nat → Option Entry) (s : St) : exec T check_checker_shape_l0 s = (exec T check_checker_shape_b0 s).bind (loopK (exec T check_checker_shape_l0) [t,f,t,f,t,t,f,f,t,t,t,f,f,t,t,t,f,f,f] 2) := exec_loop T s _ _ _
def check_checker_shape_b1 : Go.A.Code :=
   (.seq (.reg [w 11 (.bin .lss (.s 10) (.s 9))])
   (.seq (.cond (.s 11) .skip
   (.exit 0 [f,f,f,f,f,f,f,f,f,f,f,f,f,f,f,f,f,f,f] 1))
   (.seq (.block 1 (.seq (.reg [q (.mv (.s 10)), q (.ia 5 (.s 8) (.s 10)), q (.ld (some 5) (.l 0)), w 5 (.al [.f (.sl []), .f (.sl []), .f (.lit (.int .i64 0)), .f (.lit (.int .i64 0)), .f (.sl [])] []), w 4 (.mv (.l 3)), e (.st 5 (.s 5) (.l 2))])
   (.seq (.seq (.reg [q (.mv (.s 0)), q (.nil (.l 0)), q (.fa 6 (.l 0)), q (.ld none (.l 0)), q (.mv (.s 4)), q (.mv (.s 4)), q (.call .cl (.c (.one (.fn F.dom_Over [] []))) [(.l 2), (.l 1), (.l 0)]), w 12 (.un .not (.l 0))])
   (.cond (.s 12) (.seq (.reg [w 1 (.mv (i 5))])
   (.ret [f,t,f,f,f,f,f,f,f,f,f,f,f,f,f,f,f,f,f]))
   .skip))
   (.seq (.seq (.reg [q (.fa 0 (.s 5)), w 13 (.ld none (.l 0)), w 14 (.len (.s 13)), w 15 (.mv (i 0))])
   (.block 2 check_checker_shape_l0))
   (.seq (.reg [q (.fa 2 (.s 5)), q (.fa 0 (.l 0)), q (.ld none (.l 0)), q (.bin .eql (.l 0) (i 1)), q (.mv (.l 0)), ⟨.loc, .fa 2 (.s 5), (some (.l 0, false))⟩, ⟨.loc, .fa 0 (.l 0), (some (.l 1, false))⟩, ⟨.loc, .ld none (.l 0), (some (.l 2, false))⟩, ⟨.loc, .bin .eql (.l 0) (i 3), (some (.l 3, false))⟩, q (.pick (.l 4) (bo true) (.l 0)), q (.mv (.l 0)), ⟨.loc, .fa 2 (.s 5), (some (.l 0, true))⟩, ⟨.loc, .fa 1 (.l 0), (some (.l 1, true))⟩, ⟨.loc, .ld none (.l 0), (some (.l 2, true))⟩, ⟨.loc, .bin .neq (.l 0) (i 0), (some (.l 3, true))⟩, w 18 (.pick (.l 4) (.l 0) (bo false))])
   (.cond (.s 18) (.seq (.reg [w 1 (.mv (i 5))])
   (.ret [f,t,f,f,f,f,f,f,f,f,f,f,f,f,f,f,f,f,f]))
   .skip))))))
   (.reg [q (.bin .add (.s 10) (i 1)), w 10 (.mv (.l 0))]))))
def check_checker_shape_l1 : Go.A.Code := .loop [t,f,t,f,f,f,f,f,t,t,t,f,f,f,f,f,f,f,f] 1 check_checker_shape_b1
theorem check_checker_shape_l1_eq (T : Nat → Option Entry) (s : St) : exec T check_checker_shape_l1 s = (exec T check_checker_shape_b1 s).bind (loopK (exec T check_checker_shape_l1) [t,f,t,f,f,f,f,f,t,t,t,f,f,f,f,f,f,f,f] 1) := exec_loop T s _ _ _
/-- (*lockstep/check.checker).shape -/
def a_check_checker_shape : Fun := { np := 1, nslots := 19, keep := 0, raw := false, results := [(1, none)], body :=
   (.seq (.reg [w 1 (.mv (i 0))])
   (.seq (.reg [q (.mv (.s 0)), q (.nil (.l 0)), q (.fa 0 (.l 0)), q (.ld (some 3) (.l 0)), q (.call .cl (.c (.one (.fn F.graph_Of [] []))) [(.l 0)]), q (.mv (.l 0)), q (.ext (.l 0) 0), q (.ext (.l 1) 1), w 2 (.al [.f (.sl []), .f (.sl [])] []), e (.st 2 (.s 2) (.l 2)), w 3 (.mv (.l 2))])
   (.seq (.seq (.reg [q (.mv (.s 3)), w 7 (.bin .neq (.l 0) (i 0))])
   (.cond (.s 7) (.seq (.reg [w 1 (.mv (i 5))])
   (.ret [f,t,f,f,f,f,f,f,f,f,f,f,f,f,f,f,f,f,f]))
   .skip))
   (.seq (.reg [q (.mv (.s 0)), q (.mv (.s 0)), q (.ld (some 2) (.s 2)), q (.ld (some 2) (.s 2)), q (.call .cl (.c (.one (.fn F.dom_Tree [] []))) [(.l 0), (i 0)]), q (.nil (.l 4)), q (.fa 4 (.l 0)), e (.st 2 (.l 0) (.l 4)), q (.nil (.l 6)), q (.fa 6 (.l 0)), e (.st 1 (.l 0) (.l 5))])
   (.seq (.seq (.reg [q (.mv (.s 0)), q (.nil (.l 0)), q (.fa 0 (.l 0)), q (.fa 2 (.l 0)), w 8 (.ld none (.l 0)), w 9 (.len (.s 8)), w 10 (.mv (i 0))])
   (.block 0 check_checker_shape_l1))
   (.seq (.reg [w 1 (.mv (i 0))])
   (.ret [f,t,f,f,f,f,f,f,f,f,f,f,f,f,f,f,f,f,f]))))))) }
def k_check_checker_shape : List Go.Tmp := [0, 2, 3, 4, 5, 6, 8, 18, 32, 33, 34, 35, 46, 48, 49, 50, 51, 71, 88]
theorem c_check_checker_shape : chkFun Go.Proofs.Tryz.prog (drawsOf Go.Proofs.Tryz.prog) k_check_checker_shape Go.Proofs.Tryz.f108 a_check_checker_shape = true := by kernel_rfl

def check_checker_typed_b0 : Go.A.Code :=
   (.seq (.reg [w 9 (.bin .lss (.s 8) (.s 7))])
   (.seq (.cond (.s 9) .skip
   (.exit 0 [f,f,f,f,f,f,f,f,f,f,f] 1))
   (.seq (.block 1 (.seq (.reg [q (.ia 5 (.s 6) (.s 8)), q (.ld (some 5) (.l 0)), w 3 (.al [.f (.sl []), .f (.sl []), .f (.lit (.int .i64 0)), .f (.lit (.int .i64 0)), .f (.sl [])] []), e (.st 5 (.s 3) (.l 1))])
   (.seq (.reg [q (.fa 0 (.s 3)), q (.ld none (.l 0)), q (.call .op (.c (.one (.fn F.slices_ContainsFunc_Phi [] []))) [(.l 0), (.c (.one (.fn F.check_checker_typed_2 [] [])))]), w 4 (.mv (.l 0))])
   (.seq (.reg [q (.mv (.s 4)), q (.mv (.l 0)), ⟨.loc, .fa 1 (.s 3), (some (.l 0, false))⟩, ⟨.loc, .ld none (.l 0), (some (.l 1, false))⟩, ⟨.loc, .mkf F.check_checker_typed_3 [] [(.s 1)], (some (.l 2, false))⟩, ⟨.loc, .call .op (.c (.one (.fn F.slices_ContainsFunc_Op [] []))) [(.l 1), (.l 0)], (some (.l 3, false))⟩, w 10 (.pick (.l 4) (bo true) (.l 0))])
   (.cond (.s 10) (.seq (.reg [w 2 (.mv (i 6))])
   (.ret [f,f,t,f,f,f,f,f,f,f,f]))
   .skip)))))
   (.reg [q (.bin .add (.s 8) (i 1)), w 8 (.mv (.l 0))]))))
def check_checker_typed_l0 : Go.A.Code := .loop [f,t,f,f,f,f,t,t,t,f,f] 1 check_checker_typed_b0
theorem check_checker_typed_l0_eq (T : Nat → Option Entry) (s : St) : exec T check_checker_typed_l0 s = (exec T check_checker_typed_b0 s).bind (loopK (exec T check_checker_typed_l0) [f,t,f,f,f,f,t,t,t,f,f] 1) := exec_loop T s _ _ _
/-- (*lockstep/check.checker).typed -/
def a_check_checker_typed : Fun := { np := 1, nslots := 11, keep := 0, raw := false, results := [(2, none)], body :=
   (.seq (.reg [w 1 (.box 1 (.s 0)), w 2 (.mv (i 0))])
   (.seq (.seq (.reg [q (.ld none (.s 1)), q (.nil (.l 0)), q (.fa 0 (.l 0)), q (.fa 1 (.l 0)), q (.ld none (.l 0)), q (.call .cl (.c (.one (.fn F.word_May [] []))) [(.l 0)]), q (.un .not (.l 0)), q (.mv (.l 0)), ⟨.loc, .ld none (.s 1), (some (.l 0, false))⟩, ⟨.loc, .nil (.l 0), (some (.l 1, false))⟩, ⟨.loc, .fa 0 (.l 0), (some (.l 2, false))⟩, ⟨.loc, .fa 0 (.l 0), (some (.l 3, false))⟩, ⟨.loc, .ld none (.l 0), (some (.l 4, false))⟩, ⟨.loc, .call .op (.c (.one (.fn F.slices_ContainsFunc_int [] []))) [(.l 0), (.c (.one (.fn F.check_checker_typed_1 [] [])))], (some (.l 5, false))⟩, w 5 (.pick (.l 6) (bo true) (.l 0))])
   (.cond (.s 5) (.seq (.reg [w 2 (.mv (i 6))])
   (.ret [f,f,t,f,f,f,f,f,f,f,f]))
   .skip))
   (.seq (.seq (.reg [q (.ld none (.s 1)), q (.nil (.l 0)), q (.fa 0 (.l 0)), q (.fa 2 (.l 0)), w 6 (.ld none (.l 0)), w 7 (.len (.s 6)), w 8 (.mv (i 0))])
   (.block 0 check_checker_typed_l0))
   (.seq (.reg [w 2 (.mv (i 0))])
   (.ret [f,f,t,f,f,f,f,f,f,f,f]))))) }
def k_check_checker_typed : List Go.Tmp := [0, 1, 2, 4, 5, 20, 25, 26, 27, 28, 40]
theorem c_check_checker_typed : chkFun Go.Proofs.Tryz.prog (drawsOf Go.Proofs.Tryz.prog) k_check_checker_typed Go.Proofs.Tryz.f109 a_check_checker_typed = true := by kernel_rfl

def check_checker_defined_b0 : Go.A.Code :=
   (.seq (.reg [w 15 (.bin .lss (.s 14) (.s 13))])
   (.seq (.cond (.s 15) .skip
   (.exit 0 [f,t,f,f,f,f,f,f,f,f,f,f,f,f,f,f,f,f,f,f,f,f,f,f,f,f,f,f,f,f] 2))
   (.seq (.block 1 (.seq (.reg [q (.mv (.s 14)), q (.ia 1 (.s 12) (.s 14)), q (.ld none (.l 0)), w 3 (.mv (.l 2)), w 4 (.mv (.l 1))])
   (.reg [q (.ld none (.s 1)), q (.mv (.s 3)), q (.bin .add (.l 0) (i 1)), q (.mv (.s 4)), q (.call .cl (.c (.one (.fn F.check_scalar [] []))) [(.l 0)]), q (.bld [.f (.lit (.int .i64 0)), .f (.lit (.int .i64 0)), .f (.lit (.int .i64 0)), .f (.lit (.int .i64 0))] [(0, 1, (i (-1))), (1, 1, (i 0)), (2, 2, (.l 0))] []), q (.call .op (.c (.one (.fn F.check_checker_put [] []))) [(.l 5), (.l 3), (.l 0)])])))
   (.reg [q (.bin .add (.s 14) (i 1)), w 14 (.mv (.l 0))]))))
def check_checker_defined_l0 : Go.A.Code := .loop [f,t,f,f,f,f,f,f,f,f,f,f,t,t,t,f,f,f,f,f,f,f,f,f,f,f,f,f,f,f] 2 check_checker_defined_b0
theorem check_checker_defined_l0_eq (T : Nat → Option Entry) (s : St) : exec T check_checker_defined_l0 s = (exec T check_checker_defined_b0 s).bind (loopK (exec T check_checker_defined_l0) [f,t,f,f,f,f,f,f,f,f,f,f,t,t,t,f,f,f,f,f,f,f,f,f,f,f,f,f,f,f] 2) := exec_loop T s _ _ _
def check_checker_defined_b1 : Go.A.Code :=
   (.seq (.reg [w 23 (.bin .lss (.s 22) (.s 21))])
   (.seq (.cond (.s 23) .skip
   (.exit 4 [f,t,f,f,f,t,t,f,f,f,f,f,f,f,f,f,t,t,t,f,f,f,f,f,f,f,f,f,f,f] 3))
   (.seq (.block 5 (.seq (.reg [q (.ia 4 (.s 20) (.s 22)), q (.ld (some 4) (.l 0)), w 7 (.al [.f (.lit (.int .i64 0)), .f (.lit (.int .i64 0)), .f (.sl []), .f (.sl [])] []), e (.st 4 (.s 7) (.l 1))])
   (.seq (.reg [q (.fa 1 (.s 7)), q (.ld none (.l 0)), q (.bin .lss (.l 0) (i 1)), q (.mv (.l 0)), ⟨.loc, .fa 1 (.s 7), (some (.l 0, false))⟩, ⟨.loc, .ld none (.l 0), (some (.l 1, false))⟩, ⟨.loc, .bin .gtr (.l 0) (i 1023), (some (.l 2, false))⟩, q (.pick (.l 3) (bo true) (.l 0)), q (.mv (.l 0)), ⟨.loc, .ld none (.s 1), (some (.l 0, false))⟩, ⟨.loc, .fa 1 (.s 7), (some (.l 1, false))⟩, ⟨.loc, .ld none (.l 0), (some (.l 2, false))⟩, ⟨.loc, .mv (.s 5), (some (.l 3, false))⟩, ⟨.loc, .fa 0 (.s 7), (some (.l 4, false))⟩, ⟨.loc, .ld none (.l 0), (some (.l 5, false))⟩, ⟨.loc, .call .cl (.c (.one (.fn F.check_scalar [] []))) [(.l 0)], (some (.l 6, false))⟩, ⟨.loc, .bld [.f (.lit (.int .i64 0)), .f (.lit (.int .i64 0)), .f (.lit (.int .i64 0)), .f (.lit (.int .i64 0))] [(0, 1, (.l 3)), (1, 1, (i (-1))), (2, 2, (.l 0))] [], (some (.l 7, false))⟩, ⟨.loc, .call .op (.c (.one (.fn F.check_checker_put [] []))) [(.l 7), (.l 5), (.l 0)], (some (.l 8, false))⟩, ⟨.loc, .un .not (.l 0), (some (.l 9, false))⟩, w 24 (.pick (.l 10) (bo true) (.l 0))])
   (.cond (.s 24) (.seq (.reg [w 2 (.mv (i 7))])
   (.ret [f,f,t,f,f,f,f,f,f,f,f,f,f,f,f,f,f,f,f,f,f,f,f,f,f,f,f,f,f,f]))
   .skip))))
   (.reg [q (.bin .add (.s 22) (i 1)), w 22 (.mv (.l 0))]))))
def check_checker_defined_l1 : Go.A.Code := .loop [f,t,f,f,f,t,t,f,f,f,f,f,f,f,f,f,t,t,t,f,t,t,t,f,f,f,f,f,f,f] 3 check_checker_defined_b1
theorem check_checker_defined_l1_eq (T : Nat → Option Entry) (s : St) : exec T check_checker_defined_l1 s = (exec T check_checker_defined_b1 s).bind (loopK (exec T check_checker_defined_l1) [f,t,f,f,f,t,t,f,f,f,f,f,f,f,f,f,t,t,t,f,t,t,t,f,f,f,f,f,f,f] 3) := exec_loop T s _ _ _
def check_checker_defined_b2 : Go.A.Code :=
   (.seq (.reg [w 28 (.bin .lss (.s 27) (.s 26))])
   (.seq (.cond (.s 28) .skip
   (.exit 6 [f,t,f,f,f,f,f,f,f,f,f,f,f,f,f,f,t,t,t,f,f,f,f,f,f,f,f,f,f,f] 3))
   (.seq (.block 7 (.seq (.reg [q (.mv (.s 27)), q (.ia 6 (.s 25) (.s 27)), q (.ld (some 6) (.l 0)), w 9 (.al [.f (.lit (.int .i64 0)), .f (.lit (.int .i64 0)), .f (.lit (.int .i64 0)), .f (.lit (.int .i64 0)), .f (.sl []), .f (.lit (.int .u64 0))] []), w 8 (.mv (.l 3)), e (.st 6 (.s 9) (.l 2))])
   (.seq (.reg [q (.ld (some 6) (.s 9)), q (.call .cl (.c (.one (.fn F.kind_Gives [] []))) [(.l 0)]), q (.mv (.l 0)), q (.ext (.l 0) 0), q (.ext (.l 1) 1), w 10 (.mv (.l 1)), w 11 (.mv (.l 1))])
   (.seq (.reg [q (.mv (.s 10)), q (.bin .gtr (.l 0) (i 0)), q (.mv (.l 0)), ⟨.loc, .ld none (.s 1), (some (.l 0, true))⟩, ⟨.loc, .fa 3 (.s 9), (some (.l 1, true))⟩, ⟨.loc, .ld none (.l 0), (some (.l 2, true))⟩, ⟨.loc, .mv (.s 5), (some (.l 3, true))⟩, ⟨.loc, .mv (.s 8), (some (.l 4, true))⟩, ⟨.loc, .mv (.s 10), (some (.l 5, true))⟩, ⟨.loc, .mv (.s 11), (some (.l 6, true))⟩, ⟨.loc, .bld [.f (.lit (.int .i64 0)), .f (.lit (.int .i64 0))] [(0, 1, (.l 1)), (1, 1, (.l 0))] [], (some (.l 7, true))⟩, ⟨.loc, .bld [.f (.lit (.int .i64 0)), .f (.lit (.int .i64 0)), .f (.lit (.int .i64 0)), .f (.lit (.int .i64 0))] [(0, 1, (.l 4)), (1, 1, (.l 3)), (2, 2, (.l 0))] [], (some (.l 8, true))⟩, ⟨.loc, .call .op (.c (.one (.fn F.check_checker_put [] []))) [(.l 8), (.l 6), (.l 0)], (some (.l 9, true))⟩, ⟨.loc, .un .not (.l 0), (some (.l 10, true))⟩, w 29 (.pick (.l 11) (.l 0) (bo false))])
   (.cond (.s 29) (.seq (.reg [w 2 (.mv (i 7))])
   (.ret [f,f,t,f,f,f,f,f,f,f,f,f,f,f,f,f,f,f,f,f,f,f,f,f,f,f,f,f,f,f]))
   .skip)))))
   (.reg [q (.bin .add (.s 27) (i 1)), w 27 (.mv (.l 0))]))))
def check_checker_defined_l2 : Go.A.Code := .loop [f,t,f,f,f,t,f,f,f,f,f,f,f,f,f,f,t,t,t,f,f,f,f,f,f,t,t,t,f,f] 3 check_checker_defined_b2
theorem check_checker_defined_l2_eq (T : Nat → Option Entry) (s : St) : exec T check_checker_defined_l2 s = (exec T check_checker_defined_b2 s).bind (loopK (exec T check_checker_defined_l2) [f,t,f,f,f,t,f,f,f,f,f,f,f,f,f,f,t,t,t,f,f,f,f,f,f,t,t,t,f,f] 3) := exec_loop T s _ _ _
def check_checker_defined_b3 : Go.A.Code :=
   (.seq (.reg [w 19 (.bin .lss (.s 18) (.s 17))])
   (.seq (.cond (.s 19) .skip
   (.exit 2 [f,t,f,f,f,f,f,f,f,f,f,f,f,f,f,f,f,f,f,f,f,f,f,f,f,f,f,f,f,f] 2))
   (.seq (.block 3 (.seq (.reg [q (.mv (.s 18)), q (.ia 5 (.s 16) (.s 18)), q (.ld (some 5) (.l 0)), w 6 (.al [.f (.sl []), .f (.sl []), .f (.lit (.int .i64 0)), .f (.lit (.int .i64 0)), .f (.sl [])] []), w 5 (.mv (.l 3)), e (.st 5 (.s 6) (.l 2))])
   (.seq (.seq (.reg [q (.fa 0 (.s 6)), w 20 (.ld none (.l 0)), w 21 (.len (.s 20)), w 22 (.mv (i 0))])
   (.block 4 check_checker_defined_l1))
   (.seq (.reg [q (.fa 1 (.s 6)), w 25 (.ld none (.l 0)), w 26 (.len (.s 25)), w 27 (.mv (i 0))])
   (.block 6 check_checker_defined_l2)))))
   (.reg [q (.bin .add (.s 18) (i 1)), w 18 (.mv (.l 0))]))))
def check_checker_defined_l3 : Go.A.Code := .loop [f,t,f,f,f,f,f,f,f,f,f,f,f,f,f,f,t,t,t,f,f,f,f,f,f,f,f,f,f,f] 2 check_checker_defined_b3
theorem check_checker_defined_l3_eq (T : Nat → Option Entry) (s : St) : exec T check_checker_defined_l3 s = (exec T check_checker_defined_b3 s).bind (loopK (exec T check_checker_defined_l3) [f,t,f,f,f,f,f,f,f,f,f,f,f,f,f,f,t,t,t,f,f,f,f,f,f,f,f,f,f,f] 2) := exec_loop T s _ _ _
/-- (*lockstep/check.checker).defined -/
def a_check_checker_defined : Fun := { np := 1, nslots := 30, keep := 2, raw := false, results := [(2, none)], body :=
   (.seq (.reg [w 1 (.box 1 (.s 0)), w 2 (.mv (i 0))])
   (.seq (.reg [q (.ld none (.s 1)), q (.mkm), q (.nil (.l 1)), q (.fa 7 (.l 0)), e (.st 1 (.l 0) (.l 2))])
   (.seq (.seq (.reg [q (.ld none (.s 1)), q (.nil (.l 0)), q (.fa 0 (.l 0)), q (.fa 0 (.l 0)), w 12 (.ld none (.l 0)), w 13 (.len (.s 12)), w 14 (.mv (i 0))])
   (.block 0 check_checker_defined_l0))
   (.seq (.seq (.reg [q (.ld none (.s 1)), q (.nil (.l 0)), q (.fa 0 (.l 0)), q (.fa 2 (.l 0)), w 16 (.ld none (.l 0)), w 17 (.len (.s 16)), w 18 (.mv (i 0))])
   (.block 2 check_checker_defined_l3))
   (.seq (.reg [q (.ld none (.s 1)), q (.mkf F.check_checker_defined_1 [] [(.s 1)]), q (.call .op (.c (.one (.fn F.check_checker_uses [] []))) [(.l 1), (.l 0)]), w 2 (.mv (.l 0))])
   (.ret [f,f,t,f,f,f,f,f,f,f,f,f,f,f,f,f,f,f,f,f,f,f,f,f,f,f,f,f,f,f])))))) }
def k_check_checker_defined : List Go.Tmp := [0, 1, 2, 3, 4, 5, 6, 8, 9, 10, 11, 12, 21, 22, 23, 24, 40, 41, 42, 43, 48, 49, 50, 51, 73, 76, 77, 78, 79, 102]
theorem c_check_checker_defined : chkFun Go.Proofs.Tryz.prog (drawsOf Go.Proofs.Tryz.prog) k_check_checker_defined Go.Proofs.Tryz.f110 a_check_checker_defined = true := by kernel_rfl

/-- (*lockstep/check.checker).shapes -/
def a_check_checker_shapes : Fun := { np := 1, nslots := 3, keep := 0, raw := false, results := [(2, none)], body :=
   (.seq (.reg [w 1 (.box 1 (.s 0)), w 2 (.mv (i 0))])
   (.seq (.reg [q (.ld none (.s 1)), q (.mkf F.check_checker_shapes_1 [] [(.s 1)]), q (.call .op (.c (.one (.fn F.check_checker_uses [] []))) [(.l 1), (.l 0)]), w 2 (.mv (.l 0))])
   (.ret [f,f,t]))) }
def k_check_checker_shapes : List Go.Tmp := [0, 1, 2]
theorem c_check_checker_shapes : chkFun Go.Proofs.Tryz.prog (drawsOf Go.Proofs.Tryz.prog) k_check_checker_shapes Go.Proofs.Tryz.f111 a_check_checker_shapes = true := by kernel_rfl

/-- (*lockstep/check.checker).places -/
def a_check_checker_places : Fun := { np := 1, nslots := 3, keep := 0, raw := false, results := [(2, none)], body :=
   (.seq (.reg [w 1 (.box 1 (.s 0)), w 2 (.mv (i 0))])
   (.seq (.reg [q (.ld none (.s 1)), q (.mkf F.check_checker_places_1 [] [(.s 1)]), q (.call .op (.c (.one (.fn F.check_checker_uses [] []))) [(.l 1), (.l 0)]), w 2 (.mv (.l 0))])
   (.ret [f,f,t]))) }
def k_check_checker_places : List Go.Tmp := [0, 1, 2]
theorem c_check_checker_places : chkFun Go.Proofs.Tryz.prog (drawsOf Go.Proofs.Tryz.prog) k_check_checker_places Go.Proofs.Tryz.f112 a_check_checker_places = true := by kernel_rfl

def eval_machine_ways_b0 : Go.A.Code :=
   (.seq (.seq (.reg [q (.mv (.s 3)), w 4 (.bin .leq (.l 0) (i 12))])
   (.cond (.s 4) .skip
   (.exit 0 [f,f,t,f,f] 1)))
   (.seq (.block 1 (.reg [q (.mv (.s 2)), q (.mv (.s 3)), q (.mv (.s 0)), q (.mkf F.eval_machine_two [(.l 0)] []), e (.mu (.l 3) (.l 2) (.l 0))]))
   (.reg [q (.mv (.s 3)), q (.bin .add (.l 0) (i 1)), w 3 (.mv (.l 0))])))
def eval_machine_ways_l0 : Go.A.Code := .loop [t,f,t,t,f] 1 eval_machine_ways_b0
theorem eval_machine_ways_l0_eq (T : Nat → Option Entry) (s : St) : exec T eval_machine_ways_l0 s = (exec T eval_machine_ways_b0 s).bind (loopK (exec T eval_machine_ways_l0) [t,f,t,t,f] 1) := exec_loop T s _ _ _
/-- (*lockstep/eval.machine).ways -/
def a_eval_machine_ways : Fun := { np := 1, nslots := 5, keep := 1, raw := false, results := [(1, none)], body :=
   (.seq (.reg [w 1 (.mv (.c (.one (.f (.lit (.map none))))))])
   (.seq (.reg [q (.mkm), q (.mv (.s 0)), q (.mkf F.eval_machine_constant [(.l 0)] []), e (.mu (.l 2) (i 0) (.l 0)), q (.mv (.s 0)), q (.mkf F.eval_machine_choose [(.l 0)] []), e (.mu (.l 5) (i 13) (.l 0)), q (.mv (.s 0)), q (.mkf F.eval_machine_width [(.l 0)] []), e (.mu (.l 8) (i 14) (.l 0)), q (.mv (.s 0)), q (.mkf F.eval_machine_width [(.l 0)] []), e (.mu (.l 11) (i 15) (.l 0)), q (.mv (.s 0)), q (.mkf F.eval_machine_load [(.l 0)] []), e (.mu (.l 14) (i 16) (.l 0)), q (.mv (.s 0)), q (.mkf F.eval_machine_store [(.l 0)] []), e (.mu (.l 17) (i 17) (.l 0)), q (.mv (.s 0)), q (.mkf F.eval_machine_pack [(.l 0)] []), e (.mu (.l 20) (i 21) (.l 0)), q (.mv (.s 0)), q (.mkf F.eval_machine_get [(.l 0)] []), e (.mu (.l 23) (i 22) (.l 0)), q (.mv (.l 24)), w 2 (.mv (.l 0))])
   (.seq (.seq (.reg [w 3 (.mv (i 1))])
   (.block 0 eval_machine_ways_l0))
   (.seq (.reg [q (.mv (.s 2)), w 1 (.mv (.l 0))])
   (.ret [f,t,f,f,f]))))) }
def k_eval_machine_ways : List Go.Tmp := [0, 2, 3, 4, 24]
theorem c_eval_machine_ways : chkFun Go.Proofs.Tryz.prog (drawsOf Go.Proofs.Tryz.prog) k_eval_machine_ways Go.Proofs.Tryz.f113 a_eval_machine_ways = true := by kernel_rfl

/-- (*lockstep/eval.machine).guarded -/
def a_eval_machine_guarded : Fun := { np := 3, nslots := 7, keep := 3, raw := false, results := [(6, none)], body :=
   (.seq (.reg [w 3 (.box 1 (.s 0)), w 4 (.box 1 (.s 1)), w 5 (.box 1 (.s 2)), w 6 (.mv (.c (.one (.f (.lit .nilFunc)))))])
   (.seq (.reg [q (.mkf F.eval_machine_guarded_1 [] [(.s 3), (.s 4), (.s 5)]), w 6 (.mv (.l 0))])
   (.ret [f,f,f,f,f,f,t]))) }
def k_eval_machine_guarded : List Go.Tmp := [0, 1, 2, 3, 4, 5, 6]
theorem c_eval_machine_guarded : chkFun Go.Proofs.Tryz.prog (drawsOf Go.Proofs.Tryz.prog) k_eval_machine_guarded Go.Proofs.Tryz.f114 a_eval_machine_guarded = true := by kernel_rfl

/-- lockstep/lockstepref03.Shape -/
def a_lockstepref03_Shape : Fun := { np := 2, nslots := 5, keep := 0, raw := false, results := [(2, none)], body :=
   (.seq (.reg [w 2 (.mv (bo false))])
   (.seq (.seq (.reg [q (.mv (.s 0)), q (.call .cl (.c (.one (.fn F.lockstepref01_May [] []))) [(.l 0)]), w 3 (.un .not (.l 0))])
   (.cond (.s 3) (.seq (.reg [w 2 (.mv (bo false))])
   (.ret [f,f,t,f,f]))
   .skip))
   (.seq (.seq (.reg [q (.mv (.s 1)), w 4 (.bin .eql (.l 0) (i 1))])
   (.cond (.s 4) (.seq (.reg [w 2 (.mv (bo true))])
   (.ret [f,f,t,f,f]))
   .skip))
   (.seq (.reg [q (.mv (.s 1)), q (.bin .eql (.l 0) (i 2)), q (.mv (.l 0)), ⟨.loc, .mv (.s 1), (some (.l 0, false))⟩, ⟨.loc, .bin .eql (.l 0) (i 4), (some (.l 1, false))⟩, q (.pick (.l 2) (bo true) (.l 0)), q (.mv (.l 0)), ⟨.loc, .mv (.s 1), (some (.l 0, false))⟩, ⟨.loc, .bin .eql (.l 0) (i 8), (some (.l 1, false))⟩, q (.pick (.l 2) (bo true) (.l 0)), q (.mv (.l 0)), ⟨.loc, .mv (.s 1), (some (.l 0, false))⟩, ⟨.loc, .bin .eql (.l 0) (i 16), (some (.l 1, false))⟩, q (.pick (.l 2) (bo true) (.l 0)), q (.mv (.l 0)), ⟨.loc, .mv (.s 0), (some (.l 0, true))⟩, ⟨.loc, .bin .gtr (.l 0) (i 1), (some (.l 1, true))⟩, q (.pick (.l 2) (.l 0) (bo false)), q (.mv (.l 0)), ⟨.loc, .mv (.s 0), (some (.l 0, true))⟩, ⟨.loc, .mv (.s 1), (some (.l 1, true))⟩, ⟨.loc, .bin .mul (.l 1) (.l 0), (some (.l 2, true))⟩, ⟨.loc, .bin .leq (.l 0) (i 128), (some (.l 3, true))⟩, q (.pick (.l 4) (.l 0) (bo false)), w 2 (.mv (.l 0))])
   (.ret [f,f,t,f,f]))))) }
def k_lockstepref03_Shape : List Go.Tmp := [0, 1, 4, 7, 9]
theorem c_lockstepref03_Shape : chkFun Go.Proofs.Tryz.prog (drawsOf Go.Proofs.Tryz.prog) k_lockstepref03_Shape Go.Proofs.Tryz.f115 a_lockstepref03_Shape = true := by kernel_rfl

/-- lockstep/lockstepref03.Args -/
def a_lockstepref03_Args : Fun := { np := 1, nslots := 10, keep := 0, raw := false, results := [(2, none)], body :=
   (.seq (.reg [w 1 (.box 6 (.s 0)), w 2 (.mv (i 0))])
   (.seq (.seq (.reg [q (.fa 0 (.s 1)), w 3 (.ld none (.l 0))])
   (.block 0 (.seq (.reg [q (.bin .eql (.s 3) (i 0)), w 4 (.mv (.l 0))])
   (.cond (.s 4) (.seq (.reg [w 2 (.mv (i 0))])
   (.ret [f,f,t,f,f,f,f,f,f,f]))
   (.seq (.seq (.reg [q (.bin .eql (.s 3) (i 1)), w 5 (.mv (.l 0))])
   (.cond (.s 5) .skip
   (.seq (.reg [q (.bin .eql (.s 3) (i 2)), w 5 (.mv (.l 0))])
   (.cond (.s 5) .skip
   (.seq (.reg [q (.bin .eql (.s 3) (i 3)), w 5 (.mv (.l 0))])
   (.cond (.s 5) .skip
   (.seq (.reg [q (.bin .eql (.s 3) (i 4)), w 5 (.mv (.l 0))])
   (.cond (.s 5) .skip
   (.seq (.reg [q (.bin .eql (.s 3) (i 5)), w 5 (.mv (.l 0))])
   (.cond (.s 5) .skip
   (.seq (.reg [q (.bin .eql (.s 3) (i 6)), w 5 (.mv (.l 0))])
   (.cond (.s 5) .skip
   (.seq (.reg [q (.bin .eql (.s 3) (i 7)), w 5 (.mv (.l 0))])
   (.cond (.s 5) .skip
   (.seq (.reg [q (.bin .eql (.s 3) (i 8)), w 5 (.mv (.l 0))])
   (.cond (.s 5) .skip
   (.seq (.reg [q (.bin .eql (.s 3) (i 9)), w 5 (.mv (.l 0))])
   (.cond (.s 5) .skip
   (.seq (.reg [q (.bin .eql (.s 3) (i 10)), w 5 (.mv (.l 0))])
   (.cond (.s 5) .skip
   (.seq (.reg [q (.bin .eql (.s 3) (i 11)), w 5 (.mv (.l 0))])
   (.cond (.s 5) .skip
   (.seq (.reg [q (.bin .eql (.s 3) (i 12)), w 5 (.mv (.l 0))])
   (.cond (.s 5) .skip
   (.reg [q (.bin .eql (.s 3) (i 17)), w 5 (.mv (.l 0))])))))))))))))))))))))))))
   (.cond (.s 5) (.seq (.reg [w 2 (.mv (i 2))])
   (.ret [f,f,t,f,f,f,f,f,f,f]))
   (.seq (.seq (.reg [q (.bin .eql (.s 3) (i 13)), w 6 (.mv (.l 0))])
   (.cond (.s 6) .skip
   (.seq (.reg [q (.bin .eql (.s 3) (i 18)), w 6 (.mv (.l 0))])
   (.cond (.s 6) .skip
   (.reg [q (.bin .eql (.s 3) (i 19)), w 6 (.mv (.l 0))])))))
   (.cond (.s 6) (.seq (.reg [w 2 (.mv (i 3))])
   (.ret [f,f,t,f,f,f,f,f,f,f]))
   (.seq (.seq (.reg [q (.bin .eql (.s 3) (i 14)), w 7 (.mv (.l 0))])
   (.cond (.s 7) .skip
   (.seq (.reg [q (.bin .eql (.s 3) (i 15)), w 7 (.mv (.l 0))])
   (.cond (.s 7) .skip
   (.seq (.reg [q (.bin .eql (.s 3) (i 16)), w 7 (.mv (.l 0))])
   (.cond (.s 7) .skip
   (.reg [q (.bin .eql (.s 3) (i 22)), w 7 (.mv (.l 0))])))))))
   (.cond (.s 7) (.seq (.reg [w 2 (.mv (i 1))])
   (.ret [f,f,t,f,f,f,f,f,f,f]))
   (.seq (.reg [q (.bin .eql (.s 3) (i 20)), w 8 (.mv (.l 0))])
   (.cond (.s 8) (.seq (.reg [w 2 (.mv (i 4))])
   (.ret [f,f,t,f,f,f,f,f,f,f]))
   (.seq (.reg [q (.bin .eql (.s 3) (i 21)), w 9 (.mv (.l 0))])
   (.cond (.s 9) (.seq (.reg [q (.fa 2 (.s 1)), q (.ld none (.l 0)), w 2 (.mv (.l 0))])
   (.ret [f,f,t,f,f,f,f,f,f,f]))
   .skip))))))))))))))
   (.seq (.reg [w 2 (.mv (i (-1)))])
   (.ret [f,f,t,f,f,f,f,f,f,f])))) }
def k_lockstepref03_Args : List Go.Tmp := [0, 1, 2, 4, 5, 7, 21, 25, 30, 32]
theorem c_lockstepref03_Args : chkFun Go.Proofs.Tryz.prog (drawsOf Go.Proofs.Tryz.prog) k_lockstepref03_Args Go.Proofs.Tryz.f116 a_lockstepref03_Args = true := by kernel_rfl

/-- lockstep/lockstepref03.Fits -/
def a_lockstepref03_Fits : Fun := { np := 1, nslots := 12, keep := 0, raw := false, results := [(2, none)], body :=
   (.seq (.reg [w 1 (.box 6 (.s 0)), w 2 (.mv (bo false))])
   (.seq (.reg [q (.fa 0 (.s 1)), q (.ld none (.l 0)), w 3 (.mv (.l 0))])
   (.seq (.seq (.reg [q (.mv (.s 3)), q (.bin .eql (.l 0) (i 4)), q (.mv (.l 0)), ⟨.loc, .mv (.s 3), (some (.l 0, false))⟩, ⟨.loc, .bin .geq (.l 0) (i 10), (some (.l 1, false))⟩, ⟨.loc, .mv (.l 0), (some (.l 2, false))⟩, ⟨.loc, .mv (.s 3), (some (.l 0, true))⟩, ⟨.loc, .bin .leq (.l 0) (i 12), (some (.l 1, true))⟩, ⟨.loc, .pick (.l 2) (.l 0) (bo false), (some (.l 5, false))⟩, q (.pick (.l 6) (bo true) (.l 0)), q (.mv (.l 0)), ⟨.loc, .mv (.s 3), (some (.l 0, false))⟩, ⟨.loc, .bin .eql (.l 0) (i 14), (some (.l 1, false))⟩, q (.pick (.l 2) (bo true) (.l 0)), q (.mv (.l 0)), ⟨.loc, .mv (.s 3), (some (.l 0, false))⟩, ⟨.loc, .bin .eql (.l 0) (i 15), (some (.l 1, false))⟩, q (.pick (.l 2) (bo true) (.l 0)), q (.mv (.l 0)), ⟨.loc, .mv (.s 3), (some (.l 0, false))⟩, ⟨.loc, .bin .geq (.l 0) (i 18), (some (.l 1, false))⟩, ⟨.loc, .mv (.l 0), (some (.l 2, false))⟩, ⟨.loc, .mv (.s 3), (some (.l 0, true))⟩, ⟨.loc, .bin .leq (.l 0) (i 20), (some (.l 1, true))⟩, ⟨.loc, .pick (.l 2) (.l 0) (bo false), (some (.l 5, false))⟩, w 4 (.pick (.l 6) (bo true) (.l 0))])
   (.cond (.s 4) (.seq (.reg [q (.fa 2 (.s 1)), q (.ld none (.l 0)), w 5 (.bin .neq (.l 0) (i 1))])
   (.cond (.s 5) (.seq (.reg [w 2 (.mv (bo false))])
   (.ret [f,f,t,f,f,f,f,f,f,f,f,f]))
   .skip))
   .skip))
   (.seq (.seq (.reg [q (.mv (.s 3)), q (.bin .geq (.l 0) (i 16)), q (.mv (.l 0)), ⟨.loc, .mv (.s 3), (some (.l 0, true))⟩, ⟨.loc, .bin .leq (.l 0) (i 19), (some (.l 1, true))⟩, q (.pick (.l 2) (.l 0) (bo false)), q (.mv (.l 0)), ⟨.loc, .fa 1 (.s 1), (some (.l 0, true))⟩, ⟨.loc, .ld none (.l 0), (some (.l 1, true))⟩, ⟨.loc, .bin .lss (.l 0) (i 8), (some (.l 2, true))⟩, q (.pick (.l 3) (.l 0) (bo false)), q (.mv (.l 0)), ⟨.loc, .mv (.s 3), (some (.l 0, false))⟩, ⟨.loc, .bin .geq (.l 0) (i 21), (some (.l 1, false))⟩, ⟨.loc, .mv (.l 0), (some (.l 2, false))⟩, ⟨.loc, .fa 2 (.s 1), (some (.l 0, true))⟩, ⟨.loc, .ld none (.l 0), (some (.l 1, true))⟩, ⟨.loc, .bin .lss (.l 0) (i 2), (some (.l 2, true))⟩, ⟨.loc, .pick (.l 3) (.l 0) (bo false), (some (.l 6, false))⟩, w 6 (.pick (.l 7) (bo true) (.l 0))])
   (.cond (.s 6) (.seq (.reg [w 2 (.mv (bo false))])
   (.ret [f,f,t,f,f,f,f,f,f,f,f,f]))
   .skip))
   (.seq (.seq (.reg [w 7 (.mv (.s 3))])
   (.block 0 (.seq (.reg [q (.bin .eql (.s 7) (i 0)), w 8 (.mv (.l 0))])
   (.cond (.s 8) (.seq (.reg [q (.fa 5 (.s 1)), q (.ld none (.l 0)), q (.fa 1 (.s 1)), q (.ld none (.l 0)), q (.call .cl (.c (.one (.fn F.lockstepref01_Cut [] []))) [(.l 2), (.l 0)]), q (.fa 5 (.s 1)), q (.ld none (.l 0)), q (.bin .eql (.l 2) (.l 0)), w 2 (.mv (.l 0))])
   (.ret [f,f,t,f,f,f,f,f,f,f,f,f]))
   (.seq (.reg [q (.bin .eql (.s 7) (i 14)), w 9 (.mv (.l 0))])
   (.cond (.s 9) (.seq (.reg [q (.fa 5 (.s 1)), q (.ld none (.l 0)), q (.fa 1 (.s 1)), q (.ld none (.l 0)), q (.conv .u64 (.l 0)), q (.bin .lss (.l 3) (.l 0)), q (.mv (.l 0)), ⟨.loc, .fa 5 (.s 1), (some (.l 0, true))⟩, ⟨.loc, .ld none (.l 0), (some (.l 1, true))⟩, ⟨.loc, .conv .i64 (.l 0), (some (.l 2, true))⟩, ⟨.loc, .call .cl (.c (.one (.fn F.lockstepref01_May [] []))) [(.l 0)], (some (.l 3, true))⟩, q (.pick (.l 4) (.l 0) (bo false)), w 2 (.mv (.l 0))])
   (.ret [f,f,t,f,f,f,f,f,f,f,f,f]))
   (.seq (.reg [q (.bin .eql (.s 7) (i 15)), w 10 (.mv (.l 0))])
   (.cond (.s 10) (.seq (.reg [q (.fa 5 (.s 1)), q (.ld none (.l 0)), q (.fa 1 (.s 1)), q (.ld none (.l 0)), q (.conv .u64 (.l 0)), q (.bin .gtr (.l 3) (.l 0)), q (.mv (.l 0)), ⟨.loc, .fa 5 (.s 1), (some (.l 0, true))⟩, ⟨.loc, .ld none (.l 0), (some (.l 1, true))⟩, ⟨.loc, .bin .leq (.l 0) (ik .u64 64), (some (.l 2, true))⟩, q (.pick (.l 3) (.l 0) (bo false)), q (.mv (.l 0)), ⟨.loc, .fa 5 (.s 1), (some (.l 0, true))⟩, ⟨.loc, .ld none (.l 0), (some (.l 1, true))⟩, ⟨.loc, .conv .i64 (.l 0), (some (.l 2, true))⟩, ⟨.loc, .call .cl (.c (.one (.fn F.lockstepref01_May [] []))) [(.l 0)], (some (.l 3, true))⟩, q (.pick (.l 4) (.l 0) (bo false)), w 2 (.mv (.l 0))])
   (.ret [f,f,t,f,f,f,f,f,f,f,f,f]))
   (.seq (.reg [q (.bin .eql (.s 7) (i 22)), w 11 (.mv (.l 0))])
   (.cond (.s 11) (.seq (.reg [q (.fa 5 (.s 1)), q (.ld none (.l 0)), q (.fa 2 (.s 1)), q (.ld none (.l 0)), q (.conv .u64 (.l 0)), q (.bin .lss (.l 3) (.l 0)), w 2 (.mv (.l 0))])
   (.ret [f,f,t,f,f,f,f,f,f,f,f,f]))
   .skip))))))))))
   (.seq (.reg [q (.fa 5 (.s 1)), q (.ld none (.l 0)), q (.bin .eql (.l 0) (ik .u64 0)), w 2 (.mv (.l 0))])
   (.ret [f,f,t,f,f,f,f,f,f,f,f,f]))))))) }
def k_lockstepref03_Fits : List Go.Tmp := [0, 1, 2, 3, 31, 34, 54, 55, 56, 66, 80, 99]
theorem c_lockstepref03_Fits : chkFun Go.Proofs.Tryz.prog (drawsOf Go.Proofs.Tryz.prog) k_lockstepref03_Fits Go.Proofs.Tryz.f117 a_lockstepref03_Fits = true := by kernel_rfl

def lockstepref06_Same_b0 : Go.A.Code :=
   (.seq (.seq (.reg [q (.mv (.s 5)), q (.fa 0 (.s 2)), q (.ld none (.l 0)), q (.len (.l 0)), w 8 (.bin .lss (.l 3) (.l 0))])
   (.cond (.s 8) .skip
   (.exit 0 [f,f,t,t,f,f,f,f,f,f,f,f] 2)))
   (.seq (.block 1 (.seq (.reg [q (.fa 0 (.s 2)), q (.ld none (.l 0)), q (.mv (.s 5)), q (.ia 1 (.l 1) (.l 0)), q (.ld none (.l 0)), q (.fa 0 (.s 3)), q (.ld none (.l 0)), q (.mv (.s 5)), q (.ia 1 (.l 1) (.l 0)), q (.ld none (.l 0)), q (.call .cl (.c (.one (.fn F.lockstepref02_Ints [] []))) [(.l 5), (.l 0)]), w 9 (.un .not (.l 0))])
   (.cond (.s 9) (.seq (.reg [w 4 (.mv (bo false))])
   (.ret [f,f,f,f,t,f,f,f,f,f,f,f]))
   .skip)))
   (.reg [q (.mv (.s 5)), q (.bin .add (.l 0) (i 1)), w 5 (.mv (.l 0))])))
def lockstepref06_Same_l0 : Go.A.Code := .loop [f,f,t,t,f,t,f,f,f,f,f,f] 2 lockstepref06_Same_b0
theorem lockstepref06_Same_l0_eq (T : Nat → Option Entry) (s : St) : exec T lockstepref06_Same_l0 s = (exec T lockstepref06_Same_b0 s).bind (loopK (exec T lockstepref06_Same_l0) [f,f,t,t,f,t,f,f,f,f,f,f] 2) := exec_loop T s _ _ _
def lockstepref06_Same_b1 : Go.A.Code :=
   (.seq (.seq (.reg [q (.mv (.s 6)), q (.fa 1 (.s 2)), q (.ld none (.l 0)), q (.len (.l 0)), w 10 (.bin .lss (.l 3) (.l 0))])
   (.cond (.s 10) .skip
   (.exit 2 [f,f,f,f,f,f,f,f,f,f,f,f] 2)))
   (.seq (.block 3 (.seq (.reg [q (.fa 1 (.s 2)), q (.ld none (.l 0)), q (.mv (.s 6)), q (.ia 1 (.l 1) (.l 0)), q (.ld none (.l 0)), q (.fa 1 (.s 3)), q (.ld none (.l 0)), q (.mv (.s 6)), q (.ia 1 (.l 1) (.l 0)), q (.ld none (.l 0)), q (.call .cl (.c (.one (.fn F.lockstepref02_Ints [] []))) [(.l 5), (.l 0)]), w 11 (.un .not (.l 0))])
   (.cond (.s 11) (.seq (.reg [w 4 (.mv (bo false))])
   (.ret [f,f,f,f,t,f,f,f,f,f,f,f]))
   .skip)))
   (.reg [q (.mv (.s 6)), q (.bin .add (.l 0) (i 1)), w 6 (.mv (.l 0))])))
def lockstepref06_Same_l1 : Go.A.Code := .loop [f,f,t,t,f,f,t,f,f,f,f,f] 2 lockstepref06_Same_b1
theorem lockstepref06_Same_l1_eq (T : Nat → Option Entry) (s : St) : exec T lockstepref06_Same_l1 s = (exec T lockstepref06_Same_b1 s).bind (loopK (exec T lockstepref06_Same_l1) [f,f,t,t,f,f,t,f,f,f,f,f] 2) := exec_loop T s _ _ _
/-- lockstep/lockstepref06.Same -/
def a_lockstepref06_Same : Fun := { np := 2, nslots := 12, keep := 0, raw := false, results := [(4, none)], body :=
   (.seq (.reg [w 2 (.box 2 (.s 0)), w 3 (.box 2 (.s 1)), w 4 (.mv (bo false))])
   (.seq (.seq (.reg [q (.fa 0 (.s 2)), q (.ld none (.l 0)), q (.len (.l 0)), q (.fa 0 (.s 3)), q (.ld none (.l 0)), q (.len (.l 0)), q (.bin .neq (.l 3) (.l 0)), q (.mv (.l 0)), ⟨.loc, .fa 1 (.s 2), (some (.l 0, false))⟩, ⟨.loc, .ld none (.l 0), (some (.l 1, false))⟩, ⟨.loc, .len (.l 0), (some (.l 2, false))⟩, ⟨.loc, .fa 1 (.s 3), (some (.l 3, false))⟩, ⟨.loc, .ld none (.l 0), (some (.l 4, false))⟩, ⟨.loc, .len (.l 0), (some (.l 5, false))⟩, ⟨.loc, .bin .neq (.l 3) (.l 0), (some (.l 6, false))⟩, w 7 (.pick (.l 7) (bo true) (.l 0))])
   (.cond (.s 7) (.seq (.reg [w 4 (.mv (bo false))])
   (.ret [f,f,f,f,t,f,f,f,f,f,f,f]))
   .skip))
   (.seq (.seq (.reg [w 5 (.mv (i 0))])
   (.block 0 lockstepref06_Same_l0))
   (.seq (.seq (.reg [w 6 (.mv (i 0))])
   (.block 2 lockstepref06_Same_l1))
   (.seq (.reg [w 4 (.mv (bo true))])
   (.ret [f,f,f,f,t,f,f,f,f,f,f,f])))))) }
def k_lockstepref06_Same : List Go.Tmp := [0, 1, 2, 3, 4, 5, 6, 22, 27, 41, 46, 60]
theorem c_lockstepref06_Same : chkFun Go.Proofs.Tryz.prog (drawsOf Go.Proofs.Tryz.prog) k_lockstepref06_Same Go.Proofs.Tryz.f118 a_lockstepref06_Same = true := by kernel_rfl

def code_Size_b0 : Go.A.Code :=
   (.seq (.reg [w 8 (.bin .lss (.s 7) (.s 6))])
   (.seq (.cond (.s 8) .skip
   (.exit 0 [f,f,f,t,f,f,f,f,f] 1))
   (.seq (.block 1 (.seq (.reg [q (.ia 5 (.s 5) (.s 7)), q (.ld (some 5) (.l 0)), w 4 (.al [.f (.sl []), .f (.sl []), .f (.lit (.int .i64 0)), .f (.lit (.int .i64 0)), .f (.sl [])] []), e (.st 5 (.s 4) (.l 1))])
   (.reg [q (.mv (.s 3)), q (.fa 0 (.s 4)), q (.ld none (.l 0)), q (.len (.l 0)), q (.fa 1 (.s 4)), q (.ld none (.l 0)), q (.len (.l 0)), q (.bin .add (.l 3) (.l 0)), q (.bin .add (.l 7) (.l 0)), w 3 (.mv (.l 0))])))
   (.reg [q (.bin .add (.s 7) (i 1)), w 7 (.mv (.l 0))]))))
def code_Size_l0 : Go.A.Code := .loop [f,f,f,t,f,t,t,t,f] 1 code_Size_b0
theorem code_Size_l0_eq (T : Nat → Option Entry) (s : St) : exec T code_Size_l0 s = (exec T code_Size_b0 s).bind (loopK (exec T code_Size_l0) [f,f,f,t,f,t,t,t,f] 1) := exec_loop T s _ _ _
/-- lockstep/code.Size -/
def a_code_Size : Fun := { np := 1, nslots := 9, keep := 0, raw := false, results := [(2, none)], body :=
   (.seq (.reg [w 1 (.box 3 (.s 0)), w 2 (.mv (i 0))])
   (.seq (.reg [q (.fa 2 (.s 1)), q (.ld none (.l 0)), q (.len (.l 0)), w 3 (.mv (.l 0))])
   (.seq (.seq (.reg [q (.fa 2 (.s 1)), w 5 (.ld none (.l 0)), w 6 (.len (.s 5)), w 7 (.mv (i 0))])
   (.block 0 code_Size_l0))
   (.seq (.reg [q (.mv (.s 3)), w 2 (.mv (.l 0))])
   (.ret [f,f,t,f,f,f,f,f,f]))))) }
def k_code_Size : List Go.Tmp := [0, 1, 2, 3, 5, 10, 11, 12, 13]
theorem c_code_Size : chkFun Go.Proofs.Tryz.prog (drawsOf Go.Proofs.Tryz.prog) k_code_Size Go.Proofs.Tryz.f124 a_code_Size = true := by kernel_rfl

/-- lockstep/code.in -/
def a_code_in : Fun := { np := 1, nslots := 2, keep := 0, raw := false, results := [(1, none)], body :=
   (.seq (.reg [w 1 (.mv (bo false))])
   (.seq (.reg [q (.mv (.s 0)), q (.call .op (.c (.one (.fn F.slices_ContainsFunc_int [] []))) [(.l 0), (.c (.one (.fn F.code_in_1 [] [])))]), q (.un .not (.l 0)), w 1 (.mv (.l 0))])
   (.ret [f,t]))) }
def k_code_in : List Go.Tmp := [0, 2]
theorem c_code_in : chkFun Go.Proofs.Tryz.prog (drawsOf Go.Proofs.Tryz.prog) k_code_in Go.Proofs.Tryz.f125 a_code_in = true := by kernel_rfl

/-- slices.ContainsFunc[[]lockstep/api.Block,lockstep/api.Block] -/
def a_slices_ContainsFunc_Block : Fun := { np := 2, nslots := 3, keep := 0, raw := false, results := [(2, none)], body :=
   (.seq (.reg [w 2 (.mv (bo false))])
   (.seq (.reg [q (.mv (.s 0)), q (.mv (.s 1)), q (.call .op (.c (.one (.fn F.slices_IndexFunc_Block [] []))) [(.l 1), (.l 0)]), q (.bin .geq (.l 0) (i 0)), w 2 (.mv (.l 0))])
   (.ret [f,f,t]))) }
def k_slices_ContainsFunc_Block : List Go.Tmp := [0, 1, 4]
theorem c_slices_ContainsFunc_Block : chkFun Go.Proofs.Tryz.prog (drawsOf Go.Proofs.Tryz.prog) k_slices_ContainsFunc_Block Go.Proofs.Tryz.f126 a_slices_ContainsFunc_Block = true := by kernel_rfl

/-- lockstep/code.May$1 -/
def a_code_May_1 : Fun := { np := 1, nslots := 3, keep := 0, raw := false, results := [(2, none)], body :=
   (.seq (.reg [w 1 (.box 5 (.s 0)), w 2 (.mv (bo false))])
   (.seq (.reg [q (.ld (some 5) (.s 1)), q (.call .cl (.c (.one (.fn F.code_mayBlock [] []))) [(.l 0)]), q (.un .not (.l 0)), w 2 (.mv (.l 0))])
   (.ret [f,f,t]))) }
def k_code_May_1 : List Go.Tmp := [0, 1, 2]
theorem c_code_May_1 : chkFun Go.Proofs.Tryz.prog (drawsOf Go.Proofs.Tryz.prog) k_code_May_1 Go.Proofs.Tryz.f127 a_code_May_1 = true := by kernel_rfl

def code_mayBlock_b0 : Go.A.Code :=
   (.seq (.reg [w 8 (.bin .lss (.s 7) (.s 6))])
   (.seq (.cond (.s 8) .skip
   (.exit 0 [f,t,f,f,f,f,f,f,f,f,f,f,f,f,f] 1))
   (.seq (.block 1 (.seq (.reg [q (.ia 4 (.s 5) (.s 7)), q (.ld (some 4) (.l 0)), w 3 (.al [.f (.lit (.int .i64 0)), .f (.lit (.int .i64 0)), .f (.sl []), .f (.sl [])] []), e (.st 4 (.s 3) (.l 1))])
   (.seq (.reg [q (.fa 0 (.s 3)), q (.ld none (.l 0)), q (.fa 1 (.s 3)), q (.ld none (.l 0)), q (.bsl .fz 1 [[.f (.lit (.int .i64 0))], [.f (.lit (.int .i64 0))]] [(0, (.l 2)), (1, (.l 0))]), q (.call .cl (.c (.one (.fn F.code_in [] []))) [(.l 0)]), q (.un .not (.l 0)), q (.mv (.l 0)), ⟨.loc, .fa 2 (.s 3), (some (.l 0, false))⟩, ⟨.loc, .ld none (.l 0), (some (.l 1, false))⟩, ⟨.loc, .fa 3 (.s 3), (some (.l 2, false))⟩, ⟨.loc, .ld none (.l 0), (some (.l 3, false))⟩, ⟨.loc, .bsl .fz 1 [[.f (.sl [])], [.f (.sl [])]] [(0, (.l 2)), (1, (.l 0))], (some (.l 4, false))⟩, ⟨.loc, .call .cl (.c (.one (.fn F.code_lists [] []))) [(.l 0)], (some (.l 5, false))⟩, ⟨.loc, .un .not (.l 0), (some (.l 6, false))⟩, w 9 (.pick (.l 7) (bo true) (.l 0))])
   (.cond (.s 9) (.seq (.reg [w 2 (.mv (bo false))])
   (.ret [f,f,t,f,f,f,f,f,f,f,f,f,f,f,f]))
   .skip))))
   (.reg [q (.bin .add (.s 7) (i 1)), w 7 (.mv (.l 0))]))))
def code_mayBlock_l0 : Go.A.Code := .loop [f,t,f,f,f,t,t,t,f,f,f,f,f,f,f] 1 code_mayBlock_b0
theorem code_mayBlock_l0_eq (T : Nat → Option Entry) (s : St) : exec T code_mayBlock_l0 s = (exec T code_mayBlock_b0 s).bind (loopK (exec T code_mayBlock_l0) [f,t,f,f,f,t,t,t,f,f,f,f,f,f,f] 1) := exec_loop T s _ _ _
def code_mayBlock_b1 : Go.A.Code :=
   (.seq (.reg [w 13 (.bin .lss (.s 12) (.s 11))])
   (.seq (.cond (.s 13) .skip
   (.exit 2 [f,t,f,f,f,f,f,f,f,f,f,f,f,f,f] 1))
   (.seq (.block 3 (.seq (.reg [q (.ia 6 (.s 10) (.s 12)), q (.ld (some 6) (.l 0)), w 4 (.al [.f (.lit (.int .i64 0)), .f (.lit (.int .i64 0)), .f (.lit (.int .i64 0)), .f (.lit (.int .i64 0)), .f (.sl []), .f (.lit (.int .u64 0))] []), e (.st 6 (.s 4) (.l 1))])
   (.seq (.reg [q (.fa 0 (.s 4)), q (.ld none (.l 0)), q (.fa 1 (.s 4)), q (.ld none (.l 0)), q (.fa 2 (.s 4)), q (.ld none (.l 0)), q (.fa 3 (.s 4)), q (.ld none (.l 0)), q (.bsl .fz 1 [[.f (.lit (.int .i64 0))], [.f (.lit (.int .i64 0))], [.f (.lit (.int .i64 0))], [.f (.lit (.int .i64 0))]] [(0, (.l 6)), (1, (.l 4)), (2, (.l 2)), (3, (.l 0))]), q (.call .cl (.c (.one (.fn F.code_in [] []))) [(.l 0)]), q (.un .not (.l 0)), q (.mv (.l 0)), ⟨.loc, .fa 4 (.s 4), (some (.l 0, false))⟩, ⟨.loc, .ld none (.l 0), (some (.l 1, false))⟩, ⟨.loc, .bsl .fz 1 [[.f (.sl [])]] [(0, (.l 0))], (some (.l 2, false))⟩, ⟨.loc, .call .cl (.c (.one (.fn F.code_lists [] []))) [(.l 0)], (some (.l 3, false))⟩, ⟨.loc, .un .not (.l 0), (some (.l 4, false))⟩, w 14 (.pick (.l 5) (bo true) (.l 0))])
   (.cond (.s 14) (.seq (.reg [w 2 (.mv (bo false))])
   (.ret [f,f,t,f,f,f,f,f,f,f,f,f,f,f,f]))
   .skip))))
   (.reg [q (.bin .add (.s 12) (i 1)), w 12 (.mv (.l 0))]))))
def code_mayBlock_l1 : Go.A.Code := .loop [f,t,f,f,f,f,f,f,f,f,t,t,t,f,f] 1 code_mayBlock_b1
theorem code_mayBlock_l1_eq (T : Nat → Option Entry) (s : St) : exec T code_mayBlock_l1 s = (exec T code_mayBlock_b1 s).bind (loopK (exec T code_mayBlock_l1) [f,t,f,f,f,f,f,f,f,f,t,t,t,f,f] 1) := exec_loop T s _ _ _
/-- lockstep/code.mayBlock -/
def a_code_mayBlock : Fun := { np := 1, nslots := 15, keep := 0, raw := false, results := [(2, none)], body :=
   (.seq (.reg [w 1 (.box 5 (.s 0)), w 2 (.mv (bo false))])
   (.seq (.seq (.reg [q (.fa 0 (.s 1)), w 5 (.ld none (.l 0)), w 6 (.len (.s 5)), w 7 (.mv (i 0))])
   (.block 0 code_mayBlock_l0))
   (.seq (.seq (.reg [q (.fa 1 (.s 1)), w 10 (.ld none (.l 0)), w 11 (.len (.s 10)), w 12 (.mv (i 0))])
   (.block 2 code_mayBlock_l1))
   (.seq (.reg [q (.fa 2 (.s 1)), q (.fa 0 (.l 0)), q (.ld none (.l 0)), q (.fa 2 (.s 1)), q (.fa 1 (.l 0)), q (.ld none (.l 0)), q (.bsl .fz 1 [[.f (.lit (.int .i64 0))], [.f (.lit (.int .i64 0))]] [(0, (.l 3)), (1, (.l 0))]), q (.call .cl (.c (.one (.fn F.code_in [] []))) [(.l 0)]), q (.mv (.l 0)), ⟨.loc, .fa 2 (.s 1), (some (.l 0, true))⟩, ⟨.loc, .fa 2 (.l 0), (some (.l 1, true))⟩, ⟨.loc, .ld none (.l 0), (some (.l 2, true))⟩, ⟨.loc, .bsl .fz 1 [[.f (.sl [])]] [(0, (.l 0))], (some (.l 3, true))⟩, ⟨.loc, .call .cl (.c (.one (.fn F.code_lists [] []))) [(.l 0)], (some (.l 4, true))⟩, q (.pick (.l 5) (.l 0) (bo false)), w 2 (.mv (.l 0))])
   (.ret [f,f,t,f,f,f,f,f,f,f,f,f,f,f,f]))))) }
def k_code_mayBlock : List Go.Tmp := [0, 1, 2, 4, 6, 8, 9, 10, 11, 29, 32, 33, 34, 35, 55]
theorem c_code_mayBlock : chkFun Go.Proofs.Tryz.prog (drawsOf Go.Proofs.Tryz.prog) k_code_mayBlock Go.Proofs.Tryz.f128 a_code_mayBlock = true := by kernel_rfl

def graph_Of_b0 : Go.A.Code :=
   (.seq (.reg [w 11 (.bin .lss (.s 10) (.s 9))])
   (.seq (.cond (.s 11) .skip
   (.exit 0 [f,f,t,f,f,t,f,f,f,f,f,f,f] 4))
   (.seq (.block 1 (.seq (.reg [q (.ia 5 (.s 8) (.s 10)), q (.ld (some 5) (.l 0)), w 6 (.al [.f (.sl []), .f (.sl []), .f (.lit (.int .i64 0)), .f (.lit (.int .i64 0)), .f (.sl [])] []), e (.st 5 (.s 6) (.l 1))])
   (.seq (.seq (.reg [q (.fa 2 (.s 6)), q (.fa 0 (.l 0)), q (.ld none (.l 0)), q (.call .cl (.c (.one (.fn F.graph_goes [] []))) [(.l 0)]), q (.fa 2 (.s 6)), q (.fa 2 (.l 0)), q (.ld none (.l 0)), q (.len (.l 0)), q (.bin .neq (.l 4) (.l 0)), q (.mv (.l 0)), ⟨.loc, .fa 2 (.s 6), (some (.l 0, false))⟩, ⟨.loc, .fa 2 (.l 0), (some (.l 1, false))⟩, ⟨.loc, .ld none (.l 0), (some (.l 2, false))⟩, ⟨.loc, .mkf F.graph_Of_1 [] [(.s 4)], (some (.l 3, false))⟩, ⟨.loc, .call .op (.c (.one (.fn F.slices_ContainsFunc_int [] []))) [(.l 1), (.l 0)], (some (.l 4, false))⟩, w 12 (.pick (.l 5) (bo true) (.l 0))])
   (.cond (.s 12) (.seq (.reg [q (.bld [.f (.sl []), .f (.sl [])] [] []), e (.st 2 (.s 2) (.l 0)), w 3 (.mv (i 5))])
   (.ret [f,f,t,t,f,f,f,f,f,f,f,f,f]))
   .skip))
   (.reg [q (.mv (.s 5)), q (.fa 2 (.s 6)), q (.fa 2 (.l 0)), q (.ld none (.l 0)), q (.call .ck (.c (.one (.fn F.slices_Values_int [] []))) [(.l 0)]), q (.call .op (.c (.one (.fn F.slices_Sorted_int [] []))) [(.l 0)]), q (.call .op (.c (.one (.fn F.slices_Compact_int [] []))) [(.l 0)]), q (.bsl .fz 1 [[.f (.sl [])]] [(0, (.l 0))]), q (.app 1 (.l 7) (.l 0)), w 5 (.mv (.l 0))]))))
   (.reg [q (.bin .add (.s 10) (i 1)), w 10 (.mv (.l 0))]))))
def graph_Of_l0 : Go.A.Code := .loop [f,f,t,f,t,t,f,f,t,t,t,f,f] 4 graph_Of_b0
theorem graph_Of_l0_eq (T : Nat → Option Entry) (s : St) : exec T graph_Of_l0 s = (exec T graph_Of_b0 s).bind (loopK (exec T graph_Of_l0) [f,f,t,f,t,t,f,f,t,t,t,f,f] 4) := exec_loop T s _ _ _
/-- lockstep/graph.Of -/
def a_graph_Of : Fun := { np := 1, nslots := 13, keep := 0, raw := false, results := [(2, some (some 2)), (3, none)], body :=
   (.seq (.reg [w 1 (.box 3 (.s 0)), w 2 (.al [.f (.sl []), .f (.sl [])] []), w 3 (.mv (i 0))])
   (.seq (.reg [q (.fa 2 (.s 1)), q (.ld none (.l 0)), q (.len (.l 0)), w 4 (.al [.f (.lit (.int .i64 0))] []), e (.st 1 (.s 4) (.l 1))])
   (.seq (.seq (.reg [q (.ld none (.s 4)), w 7 (.bin .gtr (.l 0) (i 64))])
   (.cond (.s 7) (.seq (.reg [q (.bld [.f (.sl []), .f (.sl [])] [] []), e (.st 2 (.s 2) (.l 0)), w 3 (.mv (i 5))])
   (.ret [f,f,t,t,f,f,f,f,f,f,f,f,f]))
   .skip))
   (.seq (.reg [w 5 (.nl .tk 1)])
   (.seq (.seq (.reg [q (.fa 2 (.s 1)), w 8 (.ld none (.l 0)), w 9 (.len (.s 8)), w 10 (.mv (i 0))])
   (.block 0 graph_Of_l0))
   (.seq (.reg [q (.mv (.s 5)), q (.call .cl (.c (.one (.fn F.graph_Make [] []))) [(.l 0)]), q (.ext (.l 0) 0), q (.ext (.l 1) 1), e (.st 2 (.s 2) (.l 1)), w 3 (.mv (.l 1))])
   (.ret [f,f,t,t,f,f,f,f,f,f,f,f,f]))))))) }
def k_graph_Of : List Go.Tmp := [0, 1, 2, 3, 4, 5, 7, 12, 15, 16, 17, 18, 36]
theorem c_graph_Of : chkFun Go.Proofs.Tryz.prog (drawsOf Go.Proofs.Tryz.prog) k_graph_Of Go.Proofs.Tryz.f130 a_graph_Of = true := by kernel_rfl

def dom_Tree_b0 : Go.A.Code :=
   (.seq (.reg [w 17 (.bin .lss (.s 16) (.s 15))])
   (.seq (.cond (.s 17) .skip
   (.exit 0 [f,t,t,f,t,f,t,t,f,f,f,f,f,f,f,f,f,f,f,f,f,f,f,f,f,f,f,f,f] 3))
   (.seq (.block 1 (.seq (.reg [q (.mv (.s 16)), q (.ia 1 (.s 14) (.s 16)), q (.ld none (.l 0)), w 8 (.mv (.l 2)), w 9 (.mv (.l 1))])
   (.reg [q (.mv (.s 7)), q (.mv (.s 9)), q (.mv (.s 8)), q (.ia 1 (.l 2) (.l 1)), e (.st 1 (.l 0) (.l 1))])))
   (.reg [q (.bin .add (.s 16) (i 1)), w 16 (.mv (.l 0))]))))
def dom_Tree_l0 : Go.A.Code := .loop [f,t,t,f,t,f,t,t,f,f,f,f,f,f,t,t,t,f,f,f,f,f,f,f,f,f,f,f,f] 3 dom_Tree_b0
theorem dom_Tree_l0_eq (T : Nat → Option Entry) (s : St) : exec T dom_Tree_l0 s = (exec T dom_Tree_b0 s).bind (loopK (exec T dom_Tree_l0) [f,t,t,f,t,f,t,t,f,f,f,f,f,f,t,t,t,f,f,f,f,f,f,f,f,f,f,f,f] 3) := exec_loop T s _ _ _
def dom_Tree_b1 : Go.A.Code :=
   (.seq (.reg [w 17 (.bin .lss (.s 16) (.s 15))])
   (.seq (.cond (.s 17) .skip
   (.exit 0 [f,t,t,f,t,f,t,t,f,f,f,f,f,f,f,f,f,f,f,f,f,f,f,f,f,f,f,f,f] 3))
   (.seq (.block 1 (.seq (.reg [q (.mv (.s 16)), q (.ia 1 (.s 14) (.s 16)), q (.ld none (.l 0)), w 8 (.mv (.l 2)), w 9 (.mv (.l 1))])
   (.reg [q (.mv (.s 7)), q (.mv (.s 9)), q (.mv (.s 8)), q (.ia 1 (.l 2) (.l 1)), e (.st 1 (.l 0) (.l 1))])))
   (.reg [q (.bin .add (.s 16) (i 1)), w 16 (.mv (.l 0))]))))
def dom_Tree_l1 : Go.A.Code := .loop [f,t,t,f,t,f,t,t,f,f,f,f,f,f,t,t,t,f,f,f,f,f,f,f,f,f,f,f,f] 3 dom_Tree_b1
theorem dom_Tree_l1_eq (T : Nat → Option Entry) (s : St) : exec T dom_Tree_l1 s = (exec T dom_Tree_b1 s).bind (loopK (exec T dom_Tree_l1) [f,t,t,f,t,f,t,t,f,f,f,f,f,f,t,t,t,f,f,f,f,f,f,f,f,f,f,f,f] 3) := exec_loop T s _ _ _
def dom_Tree_b2 : Go.A.Code :=
   (.seq (.reg [w 25 (.bin .lss (.s 24) (.s 23))])
   (.seq (.cond (.s 25) .skip
   (.exit 4 [f,t,t,f,t,f,t,t,f,f,t,t,f,f,f,f,f,f,t,t,t,f,f,f,f,f,f,f,f] 3))
   (.seq (.block 5 (.seq (.reg [q (.ia 1 (.s 22) (.s 24)), q (.ld none (.l 0)), w 12 (.mv (.l 0))])
   (.block 6 (.seq (.reg [q (.mv (.s 6)), q (.mv (.s 12)), q (.ia 1 (.l 1) (.l 0)), q (.ld none (.l 0)), q (.bin .eql (.l 0) (i (-2))), w 26 (.mv (.l 0))])
   (.cond (.s 26) .skip
   (.seq (.reg [q (.mv (.s 11)), q (.bin .eql (.l 0) (i (-2))), w 27 (.mv (.l 0))])
   (.cond (.s 27) (.reg [q (.mv (.s 12)), w 11 (.mv (.l 0))])
   (.reg [q (.mv (.s 6)), q (.mv (.s 7)), q (.mv (.s 11)), q (.mv (.s 12)), q (.call .cl (.c (.one (.fn F.dom_meet [] []))) [(.l 3), (.l 2), (.l 1), (.l 0)]), w 11 (.mv (.l 0))]))))))))
   (.reg [q (.bin .add (.s 24) (i 1)), w 24 (.mv (.l 0))]))))
def dom_Tree_l2 : Go.A.Code := .loop [f,t,t,f,t,f,t,t,f,f,t,t,f,f,f,f,f,f,t,t,t,f,t,t,t,f,f,f,f] 3 dom_Tree_b2
theorem dom_Tree_l2_eq (T : Nat → Option Entry) (s : St) : exec T dom_Tree_l2 s = (exec T dom_Tree_b2 s).bind (loopK (exec T dom_Tree_l2) [f,t,t,f,t,f,t,t,f,f,t,t,f,f,f,f,f,f,t,t,t,f,t,t,t,f,f,f,f] 3) := exec_loop T s _ _ _
def dom_Tree_b3 : Go.A.Code :=
   (.seq (.reg [w 21 (.bin .lss (.s 20) (.s 19))])
   (.seq (.cond (.s 21) .skip
   (.exit 2 [f,t,f,f,f,f,t,f,f,f,f,f,f,f,f,f,f,f,f,f,f,f,f,f,f,f,f,f,f] 3))
   (.seq (.block 3 (.seq (.reg [q (.ia 1 (.s 18) (.s 20)), q (.ld none (.l 0)), w 10 (.mv (.l 0))])
   (.seq (.reg [w 11 (.mv (i (-2)))])
   (.seq (.seq (.reg [q (.fa 1 (.s 2)), q (.ld none (.l 0)), q (.mv (.s 10)), q (.ia 1 (.l 1) (.l 0)), w 22 (.ld none (.l 0)), w 23 (.len (.s 22)), w 24 (.mv (i 0))])
   (.block 4 dom_Tree_l2))
   (.seq (.reg [q (.mv (.s 6)), q (.mv (.s 10)), q (.ia 1 (.l 1) (.l 0)), q (.ld none (.l 0)), q (.mv (.s 11)), w 28 (.bin .neq (.l 1) (.l 0))])
   (.cond (.s 28) (.seq (.reg [q (.mv (.s 6)), q (.mv (.s 10)), q (.mv (.s 11)), q (.ia 1 (.l 2) (.l 1)), e (.st 1 (.l 0) (.l 1))])
   (.goto 0 [f,t,t,f,t,f,t,t,f,f,f,f,f,f,f,f,f,f,f,f,f,f,f,f,f,f,f,f,f] 3))
   .skip))))))
   (.reg [q (.bin .add (.s 20) (i 1)), w 20 (.mv (.l 0))]))))
def dom_Tree_l3 : Go.A.Code := .loop [f,t,t,f,t,f,t,t,f,f,f,f,f,f,f,f,f,f,t,t,t,f,f,f,f,f,f,f,f] 3 dom_Tree_b3
theorem dom_Tree_l3_eq (T : Nat → Option Entry) (s : St) : exec T dom_Tree_l3 s = (exec T dom_Tree_b3 s).bind (loopK (exec T dom_Tree_l3) [f,t,t,f,t,f,t,t,f,f,f,f,f,f,f,f,f,f,t,t,t,f,f,f,f,f,f,f,f] 3) := exec_loop T s _ _ _
def dom_Tree_s4 : Go.A.Code :=
   (.seq (.reg [q (.ld (some 2) (.s 2)), q (.mv (.s 1)), q (.call .cl (.c (.one (.fn F.graph_Order [] []))) [(.l 1), (.l 0)]), w 4 (.mv (.l 0))])
   (.seq (.seq (.reg [q (.mv (.s 4)), q (.len (.l 0)), w 13 (.bin .eql (.l 0) (i 0))])
   (.cond (.s 13) (.seq (.reg [w 3 (.mv (.c (.one (.f (.sl [])))))])
   (.ret [f,f,f,t,f,f,f,f,f,f,f,f,f,f,f,f,f,f,f,f,f,f,f,f,f,f,f,f,f]))
   .skip))
   (.seq (.reg [q (.fa 0 (.s 2)), q (.ld none (.l 0)), q (.len (.l 0)), w 5 (.mv (.l 0))])
   (.seq (.regd [] [q (.bsl .fz 1 [[.f (.lit (.int .i64 0))]] [(0, (i (-2)))]), q (.mv (.s 5)), q (.call .ck (.c (.one (.fn F.slices_Repeat_int [] []))) [(.l 1), (.l 0)]), q (.mv (.s 5)), q (.mks [.f (.lit (.int .i64 0))] none (.l 0)), w 6 (.mv (.l 2)), w 7 (.mv (.l 1))])
   (.seq (.seq (.reg [w 14 (.mv (.s 4)), w 15 (.len (.s 14)), w 16 (.mv (i 0))])
   (.block 0 dom_Tree_l1))
   (.seq (.reg [q (.mv (.s 6)), q (.mv (.s 1)), q (.mv (.s 1)), q (.ia 1 (.l 2) (.l 1)), e (.st 1 (.l 0) (.l 1))])
   (.seq (.label 0)
   (.seq (.seq (.reg [q (.mv (.s 4)), w 18 (.slc 1 (.l 0) (some (i 1)) none none), w 19 (.len (.s 18)), w 20 (.mv (i 0))])
   (.block 2 dom_Tree_l3))
   (.seq (.reg [q (.mv (.s 6)), q (.mv (.s 1)), q (.ia 1 (.l 1) (.l 0)), e (.st 1 (.l 0) (i (-1)))])
   (.seq (.reg [q (.mv (.s 6)), w 3 (.mv (.l 0))])
   (.ret [f,f,f,t,f,f,f,f,f,f,f,f,f,f,f,f,f,f,f,f,f,f,f,f,f,f,f,f,f])))))))))))
def dom_Tree_r4 : Go.A.Code := (findLabel dom_Tree_s4 0).getD .skip
theorem dom_Tree_r4_eq : findLabel dom_Tree_s4 0 = some dom_Tree_r4 := rfl
/-- lockstep/dom.Tree -/
def a_dom_Tree : Fun := { np := 2, nslots := 29, keep := 0, raw := false, results := [(3, none)], body :=
   (.seq (.reg [w 2 (.box 2 (.s 0)), w 3 (.mv (.c (.one (.f (.sl [])))))])
   (.scope dom_Tree_s4)) }
def k_dom_Tree : List Go.Tmp := [0, 1, 2, 4, 5, 6, 7, 8, 9, 10, 12, 13, 15, 21, 30, 31, 32, 33, 47, 48, 49, 50, 57, 58, 59, 60, 68, 74, 84]
theorem c_dom_Tree : chkFun Go.Proofs.Tryz.prog (drawsOf Go.Proofs.Tryz.prog) k_dom_Tree Go.Proofs.Tryz.f131 a_dom_Tree = true := by kernel_rfl

/-- lockstep/dom.Over -/
def a_dom_Over : Fun := { np := 3, nslots := 4, keep := 0, raw := false, results := [(3, none)], body :=
   (.seq (.reg [w 3 (.mv (bo false))])
   (.seq (.reg [q (.mv (.s 0)), q (.mv (.s 1)), q (.mv (.s 2)), q (.bsl .fz 1 [[.f (.lit (.int .i64 0))], [.f (.lit (.int .i64 0))]] [(0, (.l 1)), (1, (.l 0))]), q (.call .cl (.c (.one (.fn F.dom_in [] []))) [(.l 3), (.l 0)]), q (.mv (.l 0)), ⟨.loc, .mv (.s 0), (some (.l 0, true))⟩, ⟨.loc, .mv (.s 1), (some (.l 1, true))⟩, ⟨.loc, .mv (.s 2), (some (.l 2, true))⟩, ⟨.loc, .call .cl (.c (.one (.fn F.dom_Meet [] []))) [(.l 2), (.l 1), (.l 0)], (some (.l 3, true))⟩, ⟨.loc, .mv (.s 1), (some (.l 4, true))⟩, ⟨.loc, .bin .eql (.l 1) (.l 0), (some (.l 5, true))⟩, q (.pick (.l 6) (.l 0) (bo false)), w 3 (.mv (.l 0))])
   (.ret [f,f,f,t]))) }
def k_dom_Over : List Go.Tmp := [0, 1, 2, 6]
theorem c_dom_Over : chkFun Go.Proofs.Tryz.prog (drawsOf Go.Proofs.Tryz.prog) k_dom_Over Go.Proofs.Tryz.f132 a_dom_Over = true := by kernel_rfl

/-- (*lockstep/check.checker).typed$1 -/
def a_check_checker_typed_1 : Fun := { np := 1, nslots := 2, keep := 0, raw := false, results := [(1, none)], body :=
   (.seq (.reg [w 1 (.mv (bo false))])
   (.seq (.reg [q (.mv (.s 0)), q (.call .cl (.c (.one (.fn F.word_May [] []))) [(.l 0)]), q (.un .not (.l 0)), w 1 (.mv (.l 0))])
   (.ret [f,t]))) }
def k_check_checker_typed_1 : List Go.Tmp := [0, 2]
theorem c_check_checker_typed_1 : chkFun Go.Proofs.Tryz.prog (drawsOf Go.Proofs.Tryz.prog) k_check_checker_typed_1 Go.Proofs.Tryz.f133 a_check_checker_typed_1 = true := by kernel_rfl

/-- slices.ContainsFunc[[]lockstep/api.Phi,lockstep/api.Phi] -/
def a_slices_ContainsFunc_Phi : Fun := { np := 2, nslots := 3, keep := 0, raw := false, results := [(2, none)], body :=
   (.seq (.reg [w 2 (.mv (bo false))])
   (.seq (.reg [q (.mv (.s 0)), q (.mv (.s 1)), q (.call .op (.c (.one (.fn F.slices_IndexFunc_Phi [] []))) [(.l 1), (.l 0)]), q (.bin .geq (.l 0) (i 0)), w 2 (.mv (.l 0))])
   (.ret [f,f,t]))) }
def k_slices_ContainsFunc_Phi : List Go.Tmp := [0, 1, 4]
theorem c_slices_ContainsFunc_Phi : chkFun Go.Proofs.Tryz.prog (drawsOf Go.Proofs.Tryz.prog) k_slices_ContainsFunc_Phi Go.Proofs.Tryz.f134 a_slices_ContainsFunc_Phi = true := by kernel_rfl

/-- (*lockstep/check.checker).typed$2 -/
def a_check_checker_typed_2 : Fun := { np := 1, nslots := 3, keep := 0, raw := false, results := [(2, none)], body :=
   (.seq (.reg [w 1 (.box 4 (.s 0)), w 2 (.mv (bo false))])
   (.seq (.reg [q (.fa 0 (.s 1)), q (.ld none (.l 0)), q (.call .cl (.c (.one (.fn F.word_May [] []))) [(.l 0)]), q (.un .not (.l 0)), w 2 (.mv (.l 0))])
   (.ret [f,f,t]))) }
def k_check_checker_typed_2 : List Go.Tmp := [0, 1, 2]
theorem c_check_checker_typed_2 : chkFun Go.Proofs.Tryz.prog (drawsOf Go.Proofs.Tryz.prog) k_check_checker_typed_2 Go.Proofs.Tryz.f135 a_check_checker_typed_2 = true := by kernel_rfl

/-- slices.ContainsFunc[[]lockstep/api.Op,lockstep/api.Op] -/
def a_slices_ContainsFunc_Op : Fun := { np := 2, nslots := 3, keep := 0, raw := false, results := [(2, none)], body :=
   (.seq (.reg [w 2 (.mv (bo false))])
   (.seq (.reg [q (.mv (.s 0)), q (.mv (.s 1)), q (.call .op (.c (.one (.fn F.slices_IndexFunc_Op [] []))) [(.l 1), (.l 0)]), q (.bin .geq (.l 0) (i 0)), w 2 (.mv (.l 0))])
   (.ret [f,f,t]))) }
def k_slices_ContainsFunc_Op : List Go.Tmp := [0, 1, 4]
theorem c_slices_ContainsFunc_Op : chkFun Go.Proofs.Tryz.prog (drawsOf Go.Proofs.Tryz.prog) k_slices_ContainsFunc_Op Go.Proofs.Tryz.f136 a_slices_ContainsFunc_Op = true := by kernel_rfl

/-- (*lockstep/check.checker).typed$3 -/
def a_check_checker_typed_3 : Fun := { np := 2, nslots := 4, keep := 0, raw := false, results := [(3, none)], body :=
   (.seq (.reg [w 2 (.box 6 (.s 0)), w 3 (.mv (bo false))])
   (.seq (.reg [q (.ld none (.s 1)), q (.ld (some 6) (.s 2)), q (.call .op (.c (.one (.fn F.check_checker_of [] []))) [(.l 1), (.l 0)]), q (.un .not (.l 0)), w 3 (.mv (.l 0))])
   (.ret [f,f,f,t]))) }
def k_check_checker_typed_3 : List Go.Tmp := [0, 1, 2, 3]
theorem c_check_checker_typed_3 : chkFun Go.Proofs.Tryz.prog (drawsOf Go.Proofs.Tryz.prog) k_check_checker_typed_3 Go.Proofs.Tryz.f137 a_check_checker_typed_3 = true := by kernel_rfl

/-- (*lockstep/check.checker).of -/
def a_check_checker_of : Fun := { np := 2, nslots := 6, keep := 0, raw := false, results := [(3, none)], body :=
   (.seq (.reg [w 2 (.box 6 (.s 1)), w 3 (.mv (bo false))])
   (.seq (.block 0 (.seq (.reg [q (.mv (.s 0)), q (.nil (.l 0)), q (.fa 3 (.l 0)), q (.ld none (.l 0)), q (.bin .lss (.l 0) (i 2)), q (.mv (.l 0)), ⟨.loc, .fa 2 (.s 2), (some (.l 0, true))⟩, ⟨.loc, .ld none (.l 0), (some (.l 1, true))⟩, ⟨.loc, .bin .gtr (.l 0) (i 1), (some (.l 2, true))⟩, ⟨.loc, .mv (.l 0), (some (.l 3, true))⟩, ⟨.loc, .fa 0 (.s 2), (some (.l 0, false))⟩, ⟨.loc, .ld none (.l 0), (some (.l 1, false))⟩, ⟨.loc, .bin .gtr (.l 0) (i 20), (some (.l 2, false))⟩, ⟨.loc, .pick (.l 3) (bo true) (.l 0), (some (.l 7, true))⟩, q (.pick (.l 8) (.l 0) (bo false)), w 4 (.mv (.l 0))])
   (.cond (.s 4) (.seq (.reg [w 3 (.mv (bo false))])
   (.ret [f,f,f,t,f,f]))
   (.seq (.reg [q (.mv (.s 0)), q (.nil (.l 0)), q (.fa 3 (.l 0)), q (.ld none (.l 0)), q (.bin .lss (.l 0) (i 1)), q (.mv (.l 0)), ⟨.loc, .fa 0 (.s 2), (some (.l 0, true))⟩, ⟨.loc, .ld none (.l 0), (some (.l 1, true))⟩, ⟨.loc, .bin .gtr (.l 0) (i 17), (some (.l 2, true))⟩, q (.pick (.l 3) (.l 0) (bo false)), w 5 (.mv (.l 0))])
   (.cond (.s 5) (.seq (.reg [w 3 (.mv (bo false))])
   (.ret [f,f,f,t,f,f]))
   .skip)))))
   (.seq (.reg [q (.ld (some 6) (.s 2)), q (.call .cl (.c (.one (.fn F.kind_May [] []))) [(.l 0)]), w 3 (.mv (.l 0))])
   (.ret [f,f,f,t,f,f])))) }
def k_check_checker_of : List Go.Tmp := [0, 1, 3, 4, 5, 21]
theorem c_check_checker_of : chkFun Go.Proofs.Tryz.prog (drawsOf Go.Proofs.Tryz.prog) k_check_checker_of Go.Proofs.Tryz.f138 a_check_checker_of = true := by kernel_rfl

end AC
