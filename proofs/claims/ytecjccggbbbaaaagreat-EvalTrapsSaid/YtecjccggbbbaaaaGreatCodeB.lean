/- The machine's code of the functions that are reached, each with the kernel's check that it stands for the loaded one. Printed by a program. -/
import Derived.Test.YtecjccggbbbaaaaGreatCodeA
set_option linter.unusedVariables false
set_option linter.unusedSimpArgs false
namespace AC
open Go.A Go.A.Lex
def slices_IndexFunc_sint_b0 : Go.A.Code :=
   (.seq (.reg [w 6 (.bin .lss (.s 5) (.s 4))])
   (.seq (.cond (.s 6) .skip
   (.exit 0 [f,f,f,f,f,f,f,f] 0))
   (.seq (.block 1 (.seq (.reg [q (.mv (.s 5)), w 3 (.mv (.l 0))])
   (.seq (.reg [q (.mv (.s 1)), q (.mv (.s 0)), q (.mv (.s 3)), q (.ia 1 (.l 1) (.l 0)), q (.ld none (.l 0)), w 7 (.call .op (.l 4) [(.l 0)])])
   (.cond (.s 7) (.seq (.reg [q (.mv (.s 3)), w 2 (.mv (.l 0))])
   (.ret [f,f,t,f,f,f,f,f]))
   .skip))))
   (.reg [q (.bin .add (.s 5) (i 1)), w 5 (.mv (.l 0))]))))
def slices_IndexFunc_sint_l0 : Go.A.Code := .loop [t,t,f,f,t,t,f,f] 0 slices_IndexFunc_sint_b0
theorem slices_IndexFunc_sint_l0_eq (T : Nat → Option Entry) (s : St) : exec T slices_IndexFunc_sint_l0 s = (exec T slices_IndexFunc_sint_b0 s).bind (loopK (exec T slices_IndexFunc_sint_l0) [t,t,f,f,t,t,f,f] 0) := exec_loop T s _ _ _
/-- slices.IndexFunc[[][]int,[]int] -/
def a_slices_IndexFunc_sint : Fun := { np := 2, nslots := 8, keep := 0, raw := false, results := [(2, none)], body :=
   (.seq (.reg [w 2 (.mv (i 0))])
   (.seq (.seq (.reg [q (.mv (.s 0)), w 4 (.len (.l 0)), w 5 (.mv (i 0))])
   (.block 0 slices_IndexFunc_sint_l0))
   (.seq (.reg [w 2 (.mv (i (-1)))])
   (.ret [f,f,t,f,f,f,f,f])))) }
def k_slices_IndexFunc_sint : List Go.Tmp := [0, 1, 4, 5, 7, 8, 9, 16]
theorem c_slices_IndexFunc_sint : chkFun Go.Proofs.Tryz.prog (drawsOf Go.Proofs.Tryz.prog) k_slices_IndexFunc_sint Go.Proofs.Tryz.f216 a_slices_IndexFunc_sint = true := by kernel_rfl

def slices_EqualFunc_sint_b0 : Go.A.Code :=
   (.seq (.reg [w 11 (.bin .lss (.s 10) (.s 9))])
   (.seq (.cond (.s 11) .skip
   (.exit 0 [f,f,f,f,f,f,f,f,f,f,f,f,f] 0))
   (.seq (.block 1 (.seq (.reg [q (.mv (.s 10)), q (.ia 1 (.s 8) (.s 10)), q (.ld none (.l 0)), w 4 (.mv (.l 2)), w 5 (.mv (.l 1))])
   (.seq (.reg [q (.mv (.s 1)), q (.mv (.s 4)), q (.ia 1 (.l 1) (.l 0)), q (.ld none (.l 0)), w 6 (.mv (.l 0))])
   (.seq (.reg [q (.mv (.s 2)), q (.mv (.s 5)), q (.mv (.s 6)), q (.call .op (.l 2) [(.l 1), (.l 0)]), w 12 (.un .not (.l 0))])
   (.cond (.s 12) (.seq (.reg [w 3 (.mv (bo false))])
   (.ret [f,f,f,t,f,f,f,f,f,f,f,f,f]))
   .skip)))))
   (.reg [q (.bin .add (.s 10) (i 1)), w 10 (.mv (.l 0))]))))
def slices_EqualFunc_sint_l0 : Go.A.Code := .loop [f,t,t,f,f,f,f,f,t,t,t,f,f] 0 slices_EqualFunc_sint_b0
theorem slices_EqualFunc_sint_l0_eq (T : Nat → Option Entry) (s : St) : exec T slices_EqualFunc_sint_l0 s = (exec T slices_EqualFunc_sint_b0 s).bind (loopK (exec T slices_EqualFunc_sint_l0) [f,t,t,f,f,f,f,f,t,t,t,f,f] 0) := exec_loop T s _ _ _
/-- slices.EqualFunc[[][]int,[][]int,[]int,[]int] -/
def a_slices_EqualFunc_sint : Fun := { np := 3, nslots := 13, keep := 0, raw := false, results := [(3, none)], body :=
   (.seq (.reg [w 3 (.mv (bo false))])
   (.seq (.seq (.reg [q (.mv (.s 0)), q (.len (.l 0)), q (.mv (.s 1)), q (.len (.l 0)), w 7 (.bin .neq (.l 2) (.l 0))])
   (.cond (.s 7) (.seq (.reg [w 3 (.mv (bo false))])
   (.ret [f,f,f,t,f,f,f,f,f,f,f,f,f]))
   .skip))
   (.seq (.seq (.reg [w 8 (.mv (.s 0)), w 9 (.len (.s 8)), w 10 (.mv (i 0))])
   (.block 0 slices_EqualFunc_sint_l0))
   (.seq (.reg [w 3 (.mv (bo true))])
   (.ret [f,f,f,t,f,f,f,f,f,f,f,f,f]))))) }
def k_slices_EqualFunc_sint : List Go.Tmp := [0, 1, 2, 6, 7, 8, 9, 14, 15, 16, 17, 18, 30]
theorem c_slices_EqualFunc_sint : chkFun Go.Proofs.Tryz.prog (drawsOf Go.Proofs.Tryz.prog) k_slices_EqualFunc_sint Go.Proofs.Tryz.f217 a_slices_EqualFunc_sint = true := by kernel_rfl

/-- math/bits.Mul32 -/
def a_bits_Mul32 : Fun := { np := 2, nslots := 5, keep := 0, raw := false, results := [(2, none), (3, none)], body :=
   (.seq (.reg [w 2 (.mv (ik .u32 0)), w 3 (.mv (ik .u32 0))])
   (.seq (.reg [q (.mv (.s 0)), q (.conv .u64 (.l 0)), q (.mv (.s 1)), q (.conv .u64 (.l 0)), q (.bin .mul (.l 2) (.l 0)), w 4 (.mv (.l 0))])
   (.seq (.reg [q (.mv (.s 4)), q (.bin .shr (.l 0) (ik .u64 32)), q (.conv .u32 (.l 0)), q (.mv (.s 4)), q (.conv .u32 (.l 0)), w 2 (.mv (.l 2)), w 3 (.mv (.l 1))])
   (.ret [f,f,t,t,f])))) }
def k_bits_Mul32 : List Go.Tmp := [0, 1, 4, 5, 6]
theorem c_bits_Mul32 : chkFun Go.Proofs.Tryz.prog (drawsOf Go.Proofs.Tryz.prog) k_bits_Mul32 Go.Proofs.Tryz.f218 a_bits_Mul32 = true := by kernel_rfl

/-- math/bits.Mul64 -/
def a_bits_Mul64 : Fun := { np := 2, nslots := 12, keep := 0, raw := false, results := [(2, none), (3, none)], body :=
   (.seq (.reg [w 2 (.mv (ik .u64 0)), w 3 (.mv (ik .u64 0))])
   (.seq (.reg [q (.mv (.s 0)), q (.bin .and (.l 0) (ik .u64 4294967295)), w 4 (.mv (.l 0))])
   (.seq (.reg [q (.mv (.s 0)), q (.bin .shr (.l 0) (ik .u64 32)), w 5 (.mv (.l 0))])
   (.seq (.reg [q (.mv (.s 1)), q (.bin .and (.l 0) (ik .u64 4294967295)), w 6 (.mv (.l 0))])
   (.seq (.reg [q (.mv (.s 1)), q (.bin .shr (.l 0) (ik .u64 32)), w 7 (.mv (.l 0))])
   (.seq (.reg [q (.mv (.s 4)), q (.mv (.s 6)), q (.bin .mul (.l 1) (.l 0)), w 8 (.mv (.l 0))])
   (.seq (.reg [q (.mv (.s 5)), q (.mv (.s 6)), q (.bin .mul (.l 1) (.l 0)), q (.mv (.s 8)), q (.bin .shr (.l 0) (ik .u64 32)), q (.bin .add (.l 2) (.l 0)), w 9 (.mv (.l 0))])
   (.seq (.reg [q (.mv (.s 9)), q (.bin .and (.l 0) (ik .u64 4294967295)), w 10 (.mv (.l 0))])
   (.seq (.reg [q (.mv (.s 9)), q (.bin .shr (.l 0) (ik .u64 32)), w 11 (.mv (.l 0))])
   (.seq (.reg [q (.mv (.s 10)), q (.mv (.s 4)), q (.mv (.s 7)), q (.bin .mul (.l 1) (.l 0)), q (.bin .add (.l 3) (.l 0)), w 10 (.mv (.l 0))])
   (.seq (.reg [q (.mv (.s 5)), q (.mv (.s 7)), q (.bin .mul (.l 1) (.l 0)), q (.mv (.s 11)), q (.bin .add (.l 1) (.l 0)), q (.mv (.s 10)), q (.bin .shr (.l 0) (ik .u64 32)), q (.bin .add (.l 2) (.l 0)), w 2 (.mv (.l 0))])
   (.seq (.reg [q (.mv (.s 0)), q (.mv (.s 1)), q (.bin .mul (.l 1) (.l 0)), w 3 (.mv (.l 0))])
   (.ret [f,f,t,t,f,f,f,f,f,f,f,f]))))))))))))) }
def k_bits_Mul64 : List Go.Tmp := [0, 1, 4, 5, 6, 7, 8, 9, 10, 11, 12, 13]
theorem c_bits_Mul64 : chkFun Go.Proofs.Tryz.prog (drawsOf Go.Proofs.Tryz.prog) k_bits_Mul64 Go.Proofs.Tryz.f219 a_bits_Mul64 = true := by kernel_rfl

/-- lockstep/kind.row -/
def a_kind_row : Fun := { np := 1, nslots := 2, keep := 0, raw := false, results := [(1, none)], body :=
   (.seq (.reg [w 1 (.mv (.c (.one (.f (.sl [])))))])
   (.seq (.reg [q (.mv (.s 0)), w 1 (.mv (.l 0))])
   (.ret [f,t]))) }
def k_kind_row : List Go.Tmp := [0, 2]
theorem c_kind_row : chkFun Go.Proofs.Tryz.prog (drawsOf Go.Proofs.Tryz.prog) k_kind_row Go.Proofs.Tryz.f220 a_kind_row = true := by kernel_rfl

def slices_Repeat_2int_b0 : Go.A.Code :=
   (.seq (.seq (.reg [q (.mv (.s 6)), q (.mv (.s 5)), q (.len (.l 0)), w 9 (.bin .lss (.l 2) (.l 0))])
   (.cond (.s 9) .skip
   (.exit 0 [f,f,f,f,f,t,f,f,f,f] 1)))
   (.block 1 (.reg [q (.mv (.s 6)), q (.mv (.s 5)), q (.mv (.s 6)), q (.slc 2 (.l 1) (some (.l 0)) none none), q (.mv (.s 5)), q (.mv (.s 6)), q (.slc 2 (.l 1) none (some (.l 0)) none), q (.cpy 2 (.l 3) (.l 0)), q (.bin .add (.l 7) (.l 0)), w 6 (.mv (.l 0))])))
def slices_Repeat_2int_l0 : Go.A.Code := .loop [f,f,f,f,f,t,t,f,f,f] 1 slices_Repeat_2int_b0
theorem slices_Repeat_2int_l0_eq (T : Nat → Option Entry) (s : St) : exec T slices_Repeat_2int_l0 s = (exec T slices_Repeat_2int_b0 s).bind (loopK (exec T slices_Repeat_2int_l0) [f,f,f,f,f,t,t,f,f,f] 1) := exec_loop T s _ _ _
/-- slices.Repeat[[][2]int,[2]int] -/
def a_slices_Repeat_2int : Fun := { np := 2, nslots := 10, keep := 0, raw := false, results := [(2, none)], body :=
   (.seq (.reg [w 2 (.mv (.c (.one (.f (.sl [])))))])
   (.seq (.seq (.reg [q (.mv (.s 1)), w 7 (.bin .lss (.l 0) (i 0))])
   (.cond (.s 7) (.reg [q (.no ""), e (.no "")])
   .skip))
   (.seq (.reg [q (.mv (.s 0)), q (.len (.l 0)), q (.conv .u64 (.l 0)), q (.mv (.s 1)), q (.conv .u64 (.l 0)), q (.call .cl (.c (.one (.fn F.bits_Mul [] []))) [(.l 2), (.l 0)]), q (.mv (.l 0)), q (.ext (.l 0) 0), q (.ext (.l 1) 1), w 3 (.mv (.l 1)), w 4 (.mv (.l 1))])
   (.seq (.seq (.reg [q (.mv (.s 3)), q (.bin .gtr (.l 0) (ik .u64 0)), q (.mv (.l 0)), ⟨.loc, .mv (.s 4), (some (.l 0, false))⟩, ⟨.loc, .bin .gtr (.l 0) (ik .u64 9223372036854775807), (some (.l 1, false))⟩, w 8 (.pick (.l 2) (bo true) (.l 0))])
   (.cond (.s 8) (.reg [q (.no ""), e (.no "")])
   .skip))
   (.seq (.reg [q (.mv (.s 4)), q (.conv .i64 (.l 0)), q (.mks [.f (.lit (.int .i64 0)), .f (.lit (.int .i64 0))] none (.l 0)), w 5 (.mv (.l 0))])
   (.seq (.reg [q (.mv (.s 5)), q (.mv (.s 0)), q (.cpy 2 (.l 1) (.l 0)), w 6 (.mv (.l 0))])
   (.seq (.block 0 slices_Repeat_2int_l0)
   (.seq (.reg [q (.mv (.s 5)), w 2 (.mv (.l 0))])
   (.ret [f,f,t,f,f,f,f,f,f,f]))))))))) }
def k_slices_Repeat_2int : List Go.Tmp := [0, 1, 4, 5, 6, 7, 8, 10, 26, 37]
theorem c_slices_Repeat_2int : chkFun Go.Proofs.Tryz.prog (drawsOf Go.Proofs.Tryz.prog) k_slices_Repeat_2int Go.Proofs.Tryz.f221 a_slices_Repeat_2int = true := by kernel_rfl

/-- lockstep/word.ways$1 -/
def a_word_ways_1 : Fun := { np := 2, nslots := 3, keep := 0, raw := false, results := [(2, none)], body :=
   (.seq (.reg [w 2 (.mv (ik .u64 0))])
   (.seq (.reg [q (.mv (.s 0)), q (.mv (.s 1)), q (.bin .add (.l 1) (.l 0)), w 2 (.mv (.l 0))])
   (.ret [f,f,t]))) }
def k_word_ways_1 : List Go.Tmp := [0, 1, 4]
theorem c_word_ways_1 : chkFun Go.Proofs.Tryz.prog (drawsOf Go.Proofs.Tryz.prog) k_word_ways_1 Go.Proofs.Tryz.f222 a_word_ways_1 = true := by kernel_rfl

/-- lockstep/word.ways$2 -/
def a_word_ways_2 : Fun := { np := 2, nslots := 3, keep := 0, raw := false, results := [(2, none)], body :=
   (.seq (.reg [w 2 (.mv (ik .u64 0))])
   (.seq (.reg [q (.mv (.s 0)), q (.mv (.s 1)), q (.bin .sub (.l 1) (.l 0)), w 2 (.mv (.l 0))])
   (.ret [f,f,t]))) }
def k_word_ways_2 : List Go.Tmp := [0, 1, 4]
theorem c_word_ways_2 : chkFun Go.Proofs.Tryz.prog (drawsOf Go.Proofs.Tryz.prog) k_word_ways_2 Go.Proofs.Tryz.f223 a_word_ways_2 = true := by kernel_rfl

/-- lockstep/word.ways$3 -/
def a_word_ways_3 : Fun := { np := 2, nslots := 3, keep := 0, raw := false, results := [(2, none)], body :=
   (.seq (.reg [w 2 (.mv (ik .u64 0))])
   (.seq (.reg [q (.mv (.s 0)), q (.mv (.s 1)), q (.bin .mul (.l 1) (.l 0)), w 2 (.mv (.l 0))])
   (.ret [f,f,t]))) }
def k_word_ways_3 : List Go.Tmp := [0, 1, 4]
theorem c_word_ways_3 : chkFun Go.Proofs.Tryz.prog (drawsOf Go.Proofs.Tryz.prog) k_word_ways_3 Go.Proofs.Tryz.f224 a_word_ways_3 = true := by kernel_rfl

/-- lockstep/word.ways$4 -/
def a_word_ways_4 : Fun := { np := 2, nslots := 3, keep := 0, raw := false, results := [(2, none)], body :=
   (.seq (.reg [w 2 (.mv (ik .u64 0))])
   (.seq (.reg [q (.mv (.s 0)), q (.mv (.s 1)), q (.bin .quo (.l 1) (.l 0)), w 2 (.mv (.l 0))])
   (.ret [f,f,t]))) }
def k_word_ways_4 : List Go.Tmp := [0, 1, 4]
theorem c_word_ways_4 : chkFun Go.Proofs.Tryz.prog (drawsOf Go.Proofs.Tryz.prog) k_word_ways_4 Go.Proofs.Tryz.f225 a_word_ways_4 = true := by kernel_rfl

/-- lockstep/word.ways$5 -/
def a_word_ways_5 : Fun := { np := 2, nslots := 3, keep := 0, raw := false, results := [(2, none)], body :=
   (.seq (.reg [w 2 (.mv (ik .u64 0))])
   (.seq (.reg [q (.mv (.s 0)), q (.mv (.s 1)), q (.bin .and (.l 1) (.l 0)), w 2 (.mv (.l 0))])
   (.ret [f,f,t]))) }
def k_word_ways_5 : List Go.Tmp := [0, 1, 4]
theorem c_word_ways_5 : chkFun Go.Proofs.Tryz.prog (drawsOf Go.Proofs.Tryz.prog) k_word_ways_5 Go.Proofs.Tryz.f226 a_word_ways_5 = true := by kernel_rfl

/-- lockstep/word.ways$6 -/
def a_word_ways_6 : Fun := { np := 2, nslots := 3, keep := 0, raw := false, results := [(2, none)], body :=
   (.seq (.reg [w 2 (.mv (ik .u64 0))])
   (.seq (.reg [q (.mv (.s 0)), q (.mv (.s 1)), q (.bin .or (.l 1) (.l 0)), w 2 (.mv (.l 0))])
   (.ret [f,f,t]))) }
def k_word_ways_6 : List Go.Tmp := [0, 1, 4]
theorem c_word_ways_6 : chkFun Go.Proofs.Tryz.prog (drawsOf Go.Proofs.Tryz.prog) k_word_ways_6 Go.Proofs.Tryz.f227 a_word_ways_6 = true := by kernel_rfl

/-- lockstep/word.ways$7 -/
def a_word_ways_7 : Fun := { np := 2, nslots := 3, keep := 0, raw := false, results := [(2, none)], body :=
   (.seq (.reg [w 2 (.mv (ik .u64 0))])
   (.seq (.reg [q (.mv (.s 0)), q (.mv (.s 1)), q (.bin .xor (.l 1) (.l 0)), w 2 (.mv (.l 0))])
   (.ret [f,f,t]))) }
def k_word_ways_7 : List Go.Tmp := [0, 1, 4]
theorem c_word_ways_7 : chkFun Go.Proofs.Tryz.prog (drawsOf Go.Proofs.Tryz.prog) k_word_ways_7 Go.Proofs.Tryz.f228 a_word_ways_7 = true := by kernel_rfl

/-- lockstep/word.ways$8 -/
def a_word_ways_8 : Fun := { np := 3, nslots := 4, keep := 0, raw := false, results := [(3, none)], body :=
   (.seq (.reg [w 3 (.mv (ik .u64 0))])
   (.seq (.reg [q (.mv (.s 1)), q (.ld none (.s 2)), q (.conv .u64 (.l 0)), q (.bin .lss (.l 2) (.l 0)), q (.call .cl (.c (.one (.fn F.word_one [] []))) [(.l 0)]), q (.mv (.s 0)), q (.mv (.s 1)), q (.bin .and (.l 0) (ik .u64 63)), q (.bin .shl (.l 2) (.l 0)), q (.bin .mul (.l 4) (.l 0)), w 3 (.mv (.l 0))])
   (.ret [f,f,f,t]))) }
def k_word_ways_8 : List Go.Tmp := [0, 1, 2, 5]
theorem c_word_ways_8 : chkFun Go.Proofs.Tryz.prog (drawsOf Go.Proofs.Tryz.prog) k_word_ways_8 Go.Proofs.Tryz.f229 a_word_ways_8 = true := by kernel_rfl

/-- lockstep/word.one -/
def a_word_one : Fun := { np := 1, nslots := 3, keep := 0, raw := false, results := [(1, none)], body :=
   (.seq (.reg [w 1 (.mv (ik .u64 0))])
   (.seq (.seq (.reg [w 2 (.mv (.s 0))])
   (.cond (.s 2) (.seq (.reg [w 1 (.mv (ik .u64 1))])
   (.ret [f,t,f]))
   .skip))
   (.seq (.reg [w 1 (.mv (ik .u64 0))])
   (.ret [f,t,f])))) }
def k_word_one : List Go.Tmp := [0, 2, 3]
theorem c_word_one : chkFun Go.Proofs.Tryz.prog (drawsOf Go.Proofs.Tryz.prog) k_word_one Go.Proofs.Tryz.f230 a_word_one = true := by kernel_rfl

/-- lockstep/word.ways$9 -/
def a_word_ways_9 : Fun := { np := 3, nslots := 4, keep := 0, raw := false, results := [(3, none)], body :=
   (.seq (.reg [w 3 (.mv (ik .u64 0))])
   (.seq (.reg [q (.mv (.s 1)), q (.ld none (.s 2)), q (.conv .u64 (.l 0)), q (.bin .lss (.l 2) (.l 0)), q (.call .cl (.c (.one (.fn F.word_one [] []))) [(.l 0)]), q (.mv (.s 0)), q (.mv (.s 1)), q (.bin .and (.l 0) (ik .u64 63)), q (.bin .shr (.l 2) (.l 0)), q (.bin .mul (.l 4) (.l 0)), w 3 (.mv (.l 0))])
   (.ret [f,f,f,t]))) }
def k_word_ways_9 : List Go.Tmp := [0, 1, 2, 5]
theorem c_word_ways_9 : chkFun Go.Proofs.Tryz.prog (drawsOf Go.Proofs.Tryz.prog) k_word_ways_9 Go.Proofs.Tryz.f231 a_word_ways_9 = true := by kernel_rfl

/-- lockstep/word.ways$10 -/
def a_word_ways_10 : Fun := { np := 2, nslots := 3, keep := 0, raw := false, results := [(2, none)], body :=
   (.seq (.reg [w 2 (.mv (ik .u64 0))])
   (.seq (.reg [q (.mv (.s 0)), q (.mv (.s 1)), q (.bin .eql (.l 1) (.l 0)), q (.call .cl (.c (.one (.fn F.word_one [] []))) [(.l 0)]), w 2 (.mv (.l 0))])
   (.ret [f,f,t]))) }
def k_word_ways_10 : List Go.Tmp := [0, 1, 4]
theorem c_word_ways_10 : chkFun Go.Proofs.Tryz.prog (drawsOf Go.Proofs.Tryz.prog) k_word_ways_10 Go.Proofs.Tryz.f232 a_word_ways_10 = true := by kernel_rfl

/-- lockstep/word.ways$11 -/
def a_word_ways_11 : Fun := { np := 2, nslots := 3, keep := 0, raw := false, results := [(2, none)], body :=
   (.seq (.reg [w 2 (.mv (ik .u64 0))])
   (.seq (.reg [q (.mv (.s 0)), q (.mv (.s 1)), q (.bin .lss (.l 1) (.l 0)), q (.call .cl (.c (.one (.fn F.word_one [] []))) [(.l 0)]), w 2 (.mv (.l 0))])
   (.ret [f,f,t]))) }
def k_word_ways_11 : List Go.Tmp := [0, 1, 4]
theorem c_word_ways_11 : chkFun Go.Proofs.Tryz.prog (drawsOf Go.Proofs.Tryz.prog) k_word_ways_11 Go.Proofs.Tryz.f233 a_word_ways_11 = true := by kernel_rfl

/-- lockstep/word.ways$12 -/
def a_word_ways_12 : Fun := { np := 3, nslots := 4, keep := 0, raw := false, results := [(3, none)], body :=
   (.seq (.reg [w 3 (.mv (ik .u64 0))])
   (.seq (.reg [q (.mv (.s 0)), q (.ld none (.s 2)), q (.call .cl (.c (.one (.fn F.word_Signed [] []))) [(.l 1), (.l 0)]), q (.mv (.s 1)), q (.ld none (.s 2)), q (.call .cl (.c (.one (.fn F.word_Signed [] []))) [(.l 1), (.l 0)]), q (.bin .lss (.l 3) (.l 0)), q (.call .cl (.c (.one (.fn F.word_one [] []))) [(.l 0)]), w 3 (.mv (.l 0))])
   (.ret [f,f,f,t]))) }
def k_word_ways_12 : List Go.Tmp := [0, 1, 2, 5]
theorem c_word_ways_12 : chkFun Go.Proofs.Tryz.prog (drawsOf Go.Proofs.Tryz.prog) k_word_ways_12 Go.Proofs.Tryz.f234 a_word_ways_12 = true := by kernel_rfl

/-- lockstep/word.Signed -/
def a_word_Signed : Fun := { np := 2, nslots := 4, keep := 0, raw := false, results := [(2, none)], body :=
   (.seq (.reg [w 2 (.mv (i 0))])
   (.seq (.seq (.reg [q (.mv (.s 1)), q (.call .cl (.c (.one (.fn F.word_May [] []))) [(.l 0)]), w 3 (.un .not (.l 0))])
   (.cond (.s 3) (.seq (.reg [w 2 (.mv (i 0))])
   (.ret [f,f,t,f]))
   .skip))
   (.seq (.reg [q (.mv (.s 0)), q (.mv (.s 1)), q (.bin .sub (i 64) (.l 0)), q (.bin .shl (.l 2) (.l 0)), q (.conv .i64 (.l 0)), q (.mv (.s 1)), q (.bin .sub (i 64) (.l 0)), q (.bin .shr (.l 2) (.l 0)), w 2 (.mv (.l 0))])
   (.ret [f,f,t,f])))) }
def k_word_Signed : List Go.Tmp := [0, 1, 4, 7]
theorem c_word_Signed : chkFun Go.Proofs.Tryz.prog (drawsOf Go.Proofs.Tryz.prog) k_word_Signed Go.Proofs.Tryz.f235 a_word_Signed = true := by kernel_rfl

end AC
