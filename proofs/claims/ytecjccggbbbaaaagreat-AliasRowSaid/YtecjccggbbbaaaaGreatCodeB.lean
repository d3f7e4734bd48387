/- The machine's code of the functions that are reached, each with the kernel's check that it stands for the loaded one. Printed by a program. -/
import Derived.Test.YtecjccggbbbaaaaGreatCodeA
set_option linter.unusedVariables false
set_option linter.unusedSimpArgs false
namespace AC
open Go.A Go.A.Lex
/-- lockstep/kind.row -/
def a_kind_row : Fun := { np := 1, nslots := 2, keep := 0, raw := false, results := [(1, none)], body :=
   (.seq (.reg [w 1 (.mv (.c (.one (.f (.sl [])))))])
   (.seq (.reg [q (.mv (.s 0)), w 1 (.mv (.l 0))])
   (.ret [f,t]))) }
def k_kind_row : List Go.Tmp := [0, 2]
theorem c_kind_row : chkFun Go.Proofs.Tryz.prog (drawsOf Go.Proofs.Tryz.prog) k_kind_row Go.Proofs.Tryz.f220 a_kind_row = true := by kernel_rfl

def slices_Repeat_2int_b0 : Go.A.Code :=
   (.seq (.seq (.reg [q (.mv (.s 6)), q (.mv (.s 5)), q (.len (.l 0)), w 9 (.bin .lss (.l 2) (.l 0))])
   (.cond (.s 9) .skip
   (.exit 0 [f,f,f,f,f,t,f,f,f,f] 1)))
   (.block 1 (.reg [q (.mv (.s 6)), q (.mv (.s 5)), q (.mv (.s 6)), q (.slc 2 (.l 1) (some (.l 0)) none none), q (.mv (.s 5)), q (.mv (.s 6)), q (.slc 2 (.l 1) none (some (.l 0)) none), q (.cpy 2 (.l 3) (.l 0)), q (.bin .add (.l 7) (.l 0)), w 6 (.mv (.l 0))])))
def slices_Repeat_2int_l0 : Go.A.Code := .loop [f,f,f,f,f,t,t,f,f,f] 1 slices_Repeat_2int_b0
theorem slices_Repeat_2int_l0_eq (T : Nat → Option Entry) (s : St) : exec T slices_Repeat_2int_l0 s = (exec T slices_Repeat_2int_b0 s).bind (loopK (exec T slices_Repeat_2int_l0) [f,f,f,f,f,t,t,f,f,f] 1) := exec_loop T s _ _ _
/-- slices.Repeat[[][2]int,[2]int] -/
def a_slices_Repeat_2int : Fun := { np := 2, nslots := 10, keep := 0, raw := false, results := [(2, none)], body :=
   (.seq (.reg [w 2 (.mv (.c (.one (.f (.sl [])))))])
   (.seq (.seq (.reg [q (.mv (.s 1)), w 7 (.bin .lss (.l 0) (i 0))])
   (.cond (.s 7) (.reg [q (.no ""), e (.no "")])
   .skip))
   (.seq (.reg [q (.mv (.s 0)), q (.len (.l 0)), q (.conv .u64 (.l 0)), q (.mv (.s 1)), q (.conv .u64 (.l 0)), q (.call .cl (.c (.one (.fn F.bits_Mul [] []))) [(.l 2), (.l 0)]), q (.mv (.l 0)), q (.ext (.l 0) 0), q (.ext (.l 1) 1), w 3 (.mv (.l 1)), w 4 (.mv (.l 1))])
   (.seq (.seq (.reg [q (.mv (.s 3)), q (.bin .gtr (.l 0) (ik .u64 0)), q (.mv (.l 0)), ⟨.loc, .mv (.s 4), (some (.l 0, false))⟩, ⟨.loc, .bin .gtr (.l 0) (ik .u64 9223372036854775807), (some (.l 1, false))⟩, w 8 (.pick (.l 2) (bo true) (.l 0))])
   (.cond (.s 8) (.reg [q (.no ""), e (.no "")])
   .skip))
   (.seq (.reg [q (.mv (.s 4)), q (.conv .i64 (.l 0)), q (.mks [.f (.lit (.int .i64 0)), .f (.lit (.int .i64 0))] none (.l 0)), w 5 (.mv (.l 0))])
   (.seq (.reg [q (.mv (.s 5)), q (.mv (.s 0)), q (.cpy 2 (.l 1) (.l 0)), w 6 (.mv (.l 0))])
   (.seq (.block 0 slices_Repeat_2int_l0)
   (.seq (.reg [q (.mv (.s 5)), w 2 (.mv (.l 0))])
   (.ret [f,f,t,f,f,f,f,f,f,f]))))))))) }
def k_slices_Repeat_2int : List Go.Tmp := [0, 1, 4, 5, 6, 7, 8, 10, 26, 37]
theorem c_slices_Repeat_2int : chkFun Go.Proofs.Tryz.prog (drawsOf Go.Proofs.Tryz.prog) k_slices_Repeat_2int Go.Proofs.Tryz.f221 a_slices_Repeat_2int = true := by kernel_rfl

def slices_IndexFunc_Form_b0 : Go.A.Code :=
   (.seq (.reg [w 6 (.bin .lss (.s 5) (.s 4))])
   (.seq (.cond (.s 6) .skip
   (.exit 0 [f,f,f,f,f,f,f,f] 0))
   (.seq (.block 1 (.seq (.reg [q (.mv (.s 5)), w 3 (.mv (.l 0))])
   (.seq (.reg [q (.mv (.s 1)), q (.mv (.s 0)), q (.mv (.s 3)), q (.ia 2 (.l 1) (.l 0)), q (.ld (some 2) (.l 0)), w 7 (.call .op (.l 4) [(.l 0)])])
   (.cond (.s 7) (.seq (.reg [q (.mv (.s 3)), w 2 (.mv (.l 0))])
   (.ret [f,f,t,f,f,f,f,f]))
   .skip))))
   (.reg [q (.bin .add (.s 5) (i 1)), w 5 (.mv (.l 0))]))))
def slices_IndexFunc_Form_l0 : Go.A.Code := .loop [t,t,f,f,t,t,f,f] 0 slices_IndexFunc_Form_b0
theorem slices_IndexFunc_Form_l0_eq (T : Nat → Option Entry) (s : St) : exec T slices_IndexFunc_Form_l0 s = (exec T slices_IndexFunc_Form_b0 s).bind (loopK (exec T slices_IndexFunc_Form_l0) [t,t,f,f,t,t,f,f] 0) := exec_loop T s _ _ _
/-- slices.IndexFunc[[]lockstep/api.Form,lockstep/api.Form] -/
def a_slices_IndexFunc_Form : Fun := { np := 2, nslots := 8, keep := 0, raw := false, results := [(2, none)], body :=
   (.seq (.reg [w 2 (.mv (i 0))])
   (.seq (.seq (.reg [q (.mv (.s 0)), w 4 (.len (.l 0)), w 5 (.mv (i 0))])
   (.block 0 slices_IndexFunc_Form_l0))
   (.seq (.reg [w 2 (.mv (i (-1)))])
   (.ret [f,f,t,f,f,f,f,f])))) }
def k_slices_IndexFunc_Form : List Go.Tmp := [0, 1, 4, 5, 7, 8, 9, 16]
theorem c_slices_IndexFunc_Form : chkFun Go.Proofs.Tryz.prog (drawsOf Go.Proofs.Tryz.prog) k_slices_IndexFunc_Form Go.Proofs.Tryz.f236 a_slices_IndexFunc_Form = true := by kernel_rfl

end AC
