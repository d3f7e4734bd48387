/- The machine's code of the functions that are reached, each with the kernel's check that it stands for the loaded one. Printed by a program. -/
import Derived.Test.YtecjccggbbbaaaaGreatCodeA
set_option linter.unusedVariables false
set_option linter.unusedSimpArgs false
namespace AC
open Go.A Go.A.Lex
/-- (*lockstep/check.checker).put -/
def a_check_checker_put : Fun := { np := 3, nslots := 6, keep := 0, raw := false, results := [(4, none)], body :=
   (.seq (.reg [w 3 (.box 4 (.s 2)), w 4 (.mv (bo false))])
   (.seq (.reg [q (.mv (.s 0)), q (.nil (.l 0)), q (.fa 7 (.l 0)), q (.ld none (.l 0)), q (.mv (.s 1)), q (.lk (.agg [.f (.lit (.int .i64 0)), .f (.lit (.int .i64 0)), .f (.lit (.int .i64 0)), .f (.lit (.int .i64 0))]) true (.l 1) (.l 0)), q (.mv (.l 0)), q (.ext (.l 0) 0), q (.ext (.l 1) 1), q (.al [.f (.lit (.int .i64 0)), .f (.lit (.int .i64 0)), .f (.lit (.int .i64 0)), .f (.lit (.int .i64 0))] []), e (.st 4 (.l 0) (.l 2)), w 5 (.mv (.l 2))])
   (.seq (.reg [q (.mv (.s 0)), q (.nil (.l 0)), q (.fa 7 (.l 0)), q (.ld none (.l 0)), q (.mv (.s 1)), q (.ld (some 4) (.s 3)), e (.mu (.l 2) (.l 1) (.l 0))])
   (.seq (.reg [q (.mv (.s 5)), q (.un .not (.l 0)), w 4 (.mv (.l 0))])
   (.ret [f,f,f,f,t,f]))))) }
def k_check_checker_put : List Go.Tmp := [0, 1, 2, 5, 6, 8]
theorem c_check_checker_put : chkFun Go.Proofs.Tryz.prog (drawsOf Go.Proofs.Tryz.prog) k_check_checker_put Go.Proofs.Tryz.f139 a_check_checker_put = true := by kernel_rfl

/-- lockstep/check.scalar -/
def a_check_scalar : Fun := { np := 1, nslots := 2, keep := 0, raw := false, results := [(1, some (some 2))], body :=
   (.seq (.reg [w 1 (.al [.f (.lit (.int .i64 0)), .f (.lit (.int .i64 0))] [])])
   (.seq (.reg [q (.mv (.s 0)), q (.bld [.f (.lit (.int .i64 0)), .f (.lit (.int .i64 0))] [(0, 1, (.l 0)), (1, 1, (i 1))] []), e (.st 2 (.s 1) (.l 0))])
   (.ret [f,t]))) }
def k_check_scalar : List Go.Tmp := [0, 2]
theorem c_check_scalar : chkFun Go.Proofs.Tryz.prog (drawsOf Go.Proofs.Tryz.prog) k_check_scalar Go.Proofs.Tryz.f140 a_check_scalar = true := by kernel_rfl

/-- lockstep/kind.Gives -/
def a_kind_Gives : Fun := { np := 1, nslots := 7, keep := 0, raw := false, results := [(2, none), (3, none)], body :=
   (.seq (.reg [w 1 (.box 6 (.s 0)), w 2 (.mv (i 0)), w 3 (.mv (i 0))])
   (.seq (.block 0 (.seq (.reg [q (.ld (some 6) (.s 1)), q (.call .cl (.c (.one (.fn F.kind_May [] []))) [(.l 0)]), q (.un .not (.l 0)), q (.mv (.l 0)), ⟨.loc, .fa 0 (.s 1), (some (.l 0, false))⟩, ⟨.loc, .ld none (.l 0), (some (.l 1, false))⟩, ⟨.loc, .call .cl (.c (.one (.fn F.kind_stores [] []))) [(.l 0)], (some (.l 2, false))⟩, q (.pick (.l 3) (bo true) (.l 0)), w 4 (.mv (.l 0))])
   (.cond (.s 4) (.seq (.reg [w 2 (.mv (i 0)), w 3 (.mv (i 0))])
   (.ret [f,f,t,t,f,f,f]))
   (.seq (.reg [q (.fa 0 (.s 1)), q (.ld none (.l 0)), q (.bin .geq (.l 0) (i 10)), q (.mv (.l 0)), ⟨.loc, .fa 0 (.s 1), (some (.l 0, true))⟩, ⟨.loc, .ld none (.l 0), (some (.l 1, true))⟩, ⟨.loc, .bin .leq (.l 0) (i 12), (some (.l 2, true))⟩, q (.pick (.l 3) (.l 0) (bo false)), w 5 (.mv (.l 0))])
   (.cond (.s 5) (.seq (.reg [w 2 (.mv (i 1)), w 3 (.mv (i 1))])
   (.ret [f,f,t,t,f,f,f]))
   (.seq (.reg [q (.fa 0 (.s 1)), q (.ld none (.l 0)), q (.bin .eql (.l 0) (i 22)), w 6 (.mv (.l 0))])
   (.cond (.s 6) (.seq (.reg [q (.fa 1 (.s 1)), q (.ld none (.l 0)), w 2 (.mv (.l 0)), w 3 (.mv (i 1))])
   (.ret [f,f,t,t,f,f,f]))
   .skip)))))))
   (.seq (.reg [q (.fa 1 (.s 1)), q (.ld none (.l 0)), q (.fa 2 (.s 1)), q (.ld none (.l 0)), w 2 (.mv (.l 2)), w 3 (.mv (.l 1))])
   (.ret [f,f,t,t,f,f,f])))) }
def k_kind_Gives : List Go.Tmp := [0, 1, 2, 3, 4, 13, 22]
theorem c_kind_Gives : chkFun Go.Proofs.Tryz.prog (drawsOf Go.Proofs.Tryz.prog) k_kind_Gives Go.Proofs.Tryz.f141 a_kind_Gives = true := by kernel_rfl

def check_checker_uses_b0 : Go.A.Code :=
   (.seq (.reg [w 25 (.bin .lss (.s 24) (.s 23))])
   (.seq (.cond (.s 25) .skip
   (.exit 4 [t,t,f,t,t,t,f,f,f,f,f,f,f,f,t,t,t,f,t,t,t,f,f,f,f,f,f,f,f,f,f,f,f,f,f,f,f,f] 2))
   (.seq (.block 5 (.seq (.reg [q (.mv (.s 24)), q (.ia 1 (.s 22) (.s 24)), q (.ld none (.l 0)), w 7 (.mv (.l 2)), w 8 (.mv (.l 1))])
   (.seq (.reg [q (.mv (.s 1)), q (.mv (.s 8)), q (.fa 0 (.s 6)), q (.ld none (.l 0)), q (.call .cl (.c (.one (.fn F.check_scalar [] []))) [(.l 0)]), q (.fa 2 (.s 6)), q (.ld none (.l 0)), q (.mv (.s 7)), q (.ia 1 (.l 1) (.l 0)), q (.ld none (.l 0)), q (.call .op (.l 9) [(.l 8), (.l 5), (.l 0), (i 1048576)]), w 3 (.mv (.l 0))])
   (.seq (.reg [q (.mv (.s 3)), w 26 (.bin .neq (.l 0) (i 0))])
   (.cond (.s 26) (.goto 0 [f,f,f,t,f,f,f,f,f,f,f,f,f,f,f,f,f,f,f,f,f,f,f,f,f,f,f,f,f,f,f,f,f,f,f,f,f,f] 0)
   .skip)))))
   (.reg [q (.bin .add (.s 24) (i 1)), w 24 (.mv (.l 0))]))))
def check_checker_uses_l0 : Go.A.Code := .loop [t,t,f,t,t,t,t,f,f,f,f,f,f,f,t,t,t,f,t,t,t,f,t,t,t,f,f,f,f,f,f,f,f,f,f,f,f,f] 2 check_checker_uses_b0
theorem check_checker_uses_l0_eq (T : Nat → Option Entry) (s : St) : exec T check_checker_uses_l0 s = (exec T check_checker_uses_b0 s).bind (loopK (exec T check_checker_uses_l0) [t,t,f,t,t,t,t,f,f,f,f,f,f,f,t,t,t,f,t,t,t,f,t,t,t,f,f,f,f,f,f,f,f,f,f,f,f,f] 2) := exec_loop T s _ _ _
def check_checker_uses_b1 : Go.A.Code :=
   (.seq (.reg [w 21 (.bin .lss (.s 20) (.s 19))])
   (.seq (.cond (.s 21) .skip
   (.exit 2 [t,t,f,t,t,t,f,f,f,f,f,f,f,f,t,t,t,f,f,f,f,f,f,f,f,f,f,f,f,f,f,f,f,f,f,f,f,f] 1))
   (.seq (.block 3 (.seq (.reg [q (.ia 4 (.s 18) (.s 20)), q (.ld (some 4) (.l 0)), w 6 (.al [.f (.lit (.int .i64 0)), .f (.lit (.int .i64 0)), .f (.sl []), .f (.sl [])] []), e (.st 4 (.s 6) (.l 1))])
   (.seq (.reg [q (.fa 3 (.s 6)), w 22 (.ld none (.l 0)), w 23 (.len (.s 22)), w 24 (.mv (i 0))])
   (.block 4 check_checker_uses_l0))))
   (.reg [q (.bin .add (.s 20) (i 1)), w 20 (.mv (.l 0))]))))
def check_checker_uses_l1 : Go.A.Code := .loop [t,t,f,t,t,t,f,f,f,f,f,f,f,f,t,t,t,f,t,t,t,f,f,f,f,f,f,f,f,f,f,f,f,f,f,f,f,f] 1 check_checker_uses_b1
theorem check_checker_uses_l1_eq (T : Nat → Option Entry) (s : St) : exec T check_checker_uses_l1 s = (exec T check_checker_uses_b1 s).bind (loopK (exec T check_checker_uses_l1) [t,t,f,t,t,t,f,f,f,f,f,f,f,f,t,t,t,f,t,t,t,f,f,f,f,f,f,f,f,f,f,f,f,f,f,f,f,f] 1) := exec_loop T s _ _ _
def check_checker_uses_b2 : Go.A.Code :=
   (.seq (.reg [w 34 (.bin .lss (.s 33) (.s 32))])
   (.seq (.cond (.s 34) .skip
   (.exit 8 [t,t,f,t,t,t,f,f,f,f,f,f,f,f,t,t,t,f,f,f,f,f,f,f,f,f,f,t,t,t,f,f,f,f,f,f,f,f] 2))
   (.seq (.block 9 (.seq (.reg [q (.mv (.s 33)), q (.ia 2 (.s 31) (.s 33)), q (.ld (some 2) (.l 0)), w 12 (.al [.f (.lit (.int .i64 0)), .f (.lit (.int .i64 0))] []), w 11 (.mv (.l 3)), e (.st 2 (.s 12) (.l 2))])
   (.seq (.reg [q (.mv (.s 1)), q (.fa 4 (.s 10)), q (.ld none (.l 0)), q (.mv (.s 11)), q (.ia 1 (.l 1) (.l 0)), q (.ld none (.l 0)), q (.ld (some 2) (.s 12)), q (.mv (.s 4)), q (.mv (.s 9)), q (.call .op (.l 8) [(.l 3), (.l 2), (.l 1), (.l 0)]), w 3 (.mv (.l 0))])
   (.seq (.reg [q (.mv (.s 3)), w 35 (.bin .neq (.l 0) (i 0))])
   (.cond (.s 35) (.goto 0 [f,f,f,t,f,f,f,f,f,f,f,f,f,f,f,f,f,f,f,f,f,f,f,f,f,f,f,f,f,f,f,f,f,f,f,f,f,f] 0)
   .skip)))))
   (.reg [q (.bin .add (.s 33) (i 1)), w 33 (.mv (.l 0))]))))
def check_checker_uses_l2 : Go.A.Code := .loop [t,t,f,t,t,t,f,f,f,t,t,f,f,f,t,t,t,f,f,f,f,f,f,f,f,f,f,t,t,t,f,t,t,t,f,f,f,f] 2 check_checker_uses_b2
theorem check_checker_uses_l2_eq (T : Nat → Option Entry) (s : St) : exec T check_checker_uses_l2 s = (exec T check_checker_uses_b2 s).bind (loopK (exec T check_checker_uses_l2) [t,t,f,t,t,t,f,f,f,t,t,f,f,f,t,t,t,f,f,f,f,f,f,f,f,f,f,t,t,t,f,t,t,t,f,f,f,f] 2) := exec_loop T s _ _ _
def check_checker_uses_b3 : Go.A.Code :=
   (.seq (.reg [w 30 (.bin .lss (.s 29) (.s 28))])
   (.seq (.cond (.s 30) .skip
   (.exit 6 [t,t,f,t,t,t,f,f,f,f,f,f,f,f,t,t,t,f,f,f,f,f,f,f,f,f,f,f,f,f,f,f,f,f,f,f,f,f] 1))
   (.seq (.block 7 (.seq (.reg [q (.mv (.s 29)), q (.ia 6 (.s 27) (.s 29)), q (.ld (some 6) (.l 0)), w 10 (.al [.f (.lit (.int .i64 0)), .f (.lit (.int .i64 0)), .f (.lit (.int .i64 0)), .f (.lit (.int .i64 0)), .f (.sl []), .f (.lit (.int .u64 0))] []), w 9 (.mv (.l 3)), e (.st 6 (.s 10) (.l 2))])
   (.seq (.reg [q (.ld (some 6) (.s 10)), w 31 (.call .cl (.c (.one (.fn F.kind_Takes [] []))) [(.l 0)]), w 32 (.len (.s 31)), w 33 (.mv (i 0))])
   (.block 8 check_checker_uses_l2))))
   (.reg [q (.bin .add (.s 29) (i 1)), w 29 (.mv (.l 0))]))))
def check_checker_uses_l3 : Go.A.Code := .loop [t,t,f,t,t,t,f,f,f,f,f,f,f,f,t,t,t,f,f,f,f,f,f,f,f,f,f,t,t,t,f,f,f,f,f,f,f,f] 1 check_checker_uses_b3
theorem check_checker_uses_l3_eq (T : Nat → Option Entry) (s : St) : exec T check_checker_uses_l3 s = (exec T check_checker_uses_b3 s).bind (loopK (exec T check_checker_uses_l3) [t,t,f,t,t,t,f,f,f,f,f,f,f,f,t,t,t,f,f,f,f,f,f,f,f,f,f,t,t,t,f,f,f,f,f,f,f,f] 1) := exec_loop T s _ _ _
def check_checker_uses_b4 : Go.A.Code :=
   (.seq (.reg [w 17 (.bin .lss (.s 16) (.s 15))])
   (.seq (.cond (.s 17) .skip
   (.exit 0 [f,f,f,t,f,f,f,f,f,f,f,f,f,f,f,f,f,f,f,f,f,f,f,f,f,f,f,f,f,f,f,f,f,f,f,f,f,f] 0))
   (.seq (.block 1 (.seq (.reg [q (.mv (.s 16)), q (.ia 5 (.s 14) (.s 16)), q (.ld (some 5) (.l 0)), w 5 (.al [.f (.sl []), .f (.sl []), .f (.lit (.int .i64 0)), .f (.lit (.int .i64 0)), .f (.sl [])] []), w 4 (.mv (.l 3)), e (.st 5 (.s 5) (.l 2))])
   (.seq (.seq (.reg [q (.fa 0 (.s 5)), w 18 (.ld none (.l 0)), w 19 (.len (.s 18)), w 20 (.mv (i 0))])
   (.block 2 check_checker_uses_l1))
   (.seq (.seq (.reg [q (.fa 1 (.s 5)), w 27 (.ld none (.l 0)), w 28 (.len (.s 27)), w 29 (.mv (i 0))])
   (.block 6 check_checker_uses_l3))
   (.seq (.reg [q (.mkm), q (.mv (.s 0)), q (.nil (.l 0)), q (.fa 0 (.l 0)), q (.fa 1 (.l 0)), q (.ld none (.l 0)), e (.mu (.l 5) (i 0) (.l 0)), e (.mu (.l 6) (i 2) (i 1)), q (.mv (.l 7)), q (.fa 2 (.s 5)), q (.fa 0 (.l 0)), q (.ld none (.l 0)), q (.lk (.one (.f (.lit (.int .i64 0)))) false (.l 3) (.l 0)), w 13 (.mv (.l 0))])
   (.seq (.seq (.reg [q (.mv (.s 13)), w 36 (.bin .eql (.l 0) (i 0))])
   (.cond (.s 36) (.exit 1 [t,t,f,t,f,f,f,f,f,f,f,f,f,f,t,t,t,f,f,f,f,f,f,f,f,f,f,f,f,f,f,f,f,f,f,f,f,f] 0)
   .skip))
   (.seq (.reg [q (.mv (.s 1)), q (.fa 2 (.s 5)), q (.fa 1 (.l 0)), q (.ld none (.l 0)), q (.mv (.s 13)), q (.call .cl (.c (.one (.fn F.check_scalar [] []))) [(.l 0)]), q (.mv (.s 4)), q (.call .op (.l 6) [(.l 3), (.l 1), (.l 0), (i 1048576)]), w 3 (.mv (.l 0))])
   (.seq (.reg [q (.mv (.s 3)), w 37 (.bin .neq (.l 0) (i 0))])
   (.cond (.s 37) (.goto 0 [f,f,f,t,f,f,f,f,f,f,f,f,f,f,f,f,f,f,f,f,f,f,f,f,f,f,f,f,f,f,f,f,f,f,f,f,f,f] 0)
   .skip)))))))))
   (.reg [q (.bin .add (.s 16) (i 1)), w 16 (.mv (.l 0))]))))
def check_checker_uses_l4 : Go.A.Code := .loop [t,t,f,t,f,f,f,f,f,f,f,f,f,f,t,t,t,f,f,f,f,f,f,f,f,f,f,f,f,f,f,f,f,f,f,f,f,f] 0 check_checker_uses_b4
theorem check_checker_uses_l4_eq (T : Nat → Option Entry) (s : St) : exec T check_checker_uses_l4 s = (exec T check_checker_uses_b4 s).bind (loopK (exec T check_checker_uses_l4) [t,t,f,t,f,f,f,f,f,f,f,f,f,f,t,t,t,f,f,f,f,f,f,f,f,f,f,f,f,f,f,f,f,f,f,f,f,f] 0) := exec_loop T s _ _ _
def check_checker_uses_b5 : Go.A.Code :=
   (.seq (.reg [w 25 (.bin .lss (.s 24) (.s 23))])
   (.seq (.cond (.s 25) .skip
   (.exit 4 [t,t,f,t,t,t,f,f,f,f,f,f,f,f,t,t,t,f,t,t,t,f,f,f,f,f,f,f,f,f,f,f,f,f,f,f,f,f] 2))
   (.seq (.block 5 (.seq (.reg [q (.mv (.s 24)), q (.ia 1 (.s 22) (.s 24)), q (.ld none (.l 0)), w 7 (.mv (.l 2)), w 8 (.mv (.l 1))])
   (.seq (.reg [q (.mv (.s 1)), q (.mv (.s 8)), q (.fa 0 (.s 6)), q (.ld none (.l 0)), q (.call .cl (.c (.one (.fn F.check_scalar [] []))) [(.l 0)]), q (.fa 2 (.s 6)), q (.ld none (.l 0)), q (.mv (.s 7)), q (.ia 1 (.l 1) (.l 0)), q (.ld none (.l 0)), q (.call .op (.l 9) [(.l 8), (.l 5), (.l 0), (i 1048576)]), w 3 (.mv (.l 0))])
   (.seq (.reg [q (.mv (.s 3)), w 26 (.bin .neq (.l 0) (i 0))])
   (.cond (.s 26) (.goto 0 [f,f,f,t,f,f,f,f,f,f,f,f,f,f,f,f,f,f,f,f,f,f,f,f,f,f,f,f,f,f,f,f,f,f,f,f,f,f] 0)
   .skip)))))
   (.reg [q (.bin .add (.s 24) (i 1)), w 24 (.mv (.l 0))]))))
def check_checker_uses_l5 : Go.A.Code := .loop [t,t,f,t,t,t,t,f,f,f,f,f,f,f,t,t,t,f,t,t,t,f,t,t,t,f,f,f,f,f,f,f,f,f,f,f,f,f] 2 check_checker_uses_b5
theorem check_checker_uses_l5_eq (T : Nat → Option Entry) (s : St) : exec T check_checker_uses_l5 s = (exec T check_checker_uses_b5 s).bind (loopK (exec T check_checker_uses_l5) [t,t,f,t,t,t,t,f,f,f,f,f,f,f,t,t,t,f,t,t,t,f,t,t,t,f,f,f,f,f,f,f,f,f,f,f,f,f] 2) := exec_loop T s _ _ _
def check_checker_uses_b6 : Go.A.Code :=
   (.seq (.reg [w 21 (.bin .lss (.s 20) (.s 19))])
   (.seq (.cond (.s 21) .skip
   (.exit 2 [t,t,f,t,t,t,f,f,f,f,f,f,f,f,t,t,t,f,f,f,f,f,f,f,f,f,f,f,f,f,f,f,f,f,f,f,f,f] 1))
   (.seq (.block 3 (.seq (.reg [q (.ia 4 (.s 18) (.s 20)), q (.ld (some 4) (.l 0)), w 6 (.al [.f (.lit (.int .i64 0)), .f (.lit (.int .i64 0)), .f (.sl []), .f (.sl [])] []), e (.st 4 (.s 6) (.l 1))])
   (.seq (.reg [q (.fa 3 (.s 6)), w 22 (.ld none (.l 0)), w 23 (.len (.s 22)), w 24 (.mv (i 0))])
   (.block 4 check_checker_uses_l5))))
   (.reg [q (.bin .add (.s 20) (i 1)), w 20 (.mv (.l 0))]))))
def check_checker_uses_l6 : Go.A.Code := .loop [t,t,f,t,t,t,f,f,f,f,f,f,f,f,t,t,t,f,t,t,t,f,f,f,f,f,f,f,f,f,f,f,f,f,f,f,f,f] 1 check_checker_uses_b6
theorem check_checker_uses_l6_eq (T : Nat → Option Entry) (s : St) : exec T check_checker_uses_l6 s = (exec T check_checker_uses_b6 s).bind (loopK (exec T check_checker_uses_l6) [t,t,f,t,t,t,f,f,f,f,f,f,f,f,t,t,t,f,t,t,t,f,f,f,f,f,f,f,f,f,f,f,f,f,f,f,f,f] 1) := exec_loop T s _ _ _
def check_checker_uses_b7 : Go.A.Code :=
   (.seq (.reg [w 34 (.bin .lss (.s 33) (.s 32))])
   (.seq (.cond (.s 34) .skip
   (.exit 8 [t,t,f,t,t,t,f,f,f,f,f,f,f,f,t,t,t,f,f,f,f,f,f,f,f,f,f,t,t,t,f,f,f,f,f,f,f,f] 2))
   (.seq (.block 9 (.seq (.reg [q (.mv (.s 33)), q (.ia 2 (.s 31) (.s 33)), q (.ld (some 2) (.l 0)), w 12 (.al [.f (.lit (.int .i64 0)), .f (.lit (.int .i64 0))] []), w 11 (.mv (.l 3)), e (.st 2 (.s 12) (.l 2))])
   (.seq (.reg [q (.mv (.s 1)), q (.fa 4 (.s 10)), q (.ld none (.l 0)), q (.mv (.s 11)), q (.ia 1 (.l 1) (.l 0)), q (.ld none (.l 0)), q (.ld (some 2) (.s 12)), q (.mv (.s 4)), q (.mv (.s 9)), q (.call .op (.l 8) [(.l 3), (.l 2), (.l 1), (.l 0)]), w 3 (.mv (.l 0))])
   (.seq (.reg [q (.mv (.s 3)), w 35 (.bin .neq (.l 0) (i 0))])
   (.cond (.s 35) (.goto 0 [f,f,f,t,f,f,f,f,f,f,f,f,f,f,f,f,f,f,f,f,f,f,f,f,f,f,f,f,f,f,f,f,f,f,f,f,f,f] 0)
   .skip)))))
   (.reg [q (.bin .add (.s 33) (i 1)), w 33 (.mv (.l 0))]))))
def check_checker_uses_l7 : Go.A.Code := .loop [t,t,f,t,t,t,f,f,f,t,t,f,f,f,t,t,t,f,f,f,f,f,f,f,f,f,f,t,t,t,f,t,t,t,f,f,f,f] 2 check_checker_uses_b7
theorem check_checker_uses_l7_eq (T : Nat → Option Entry) (s : St) : exec T check_checker_uses_l7 s = (exec T check_checker_uses_b7 s).bind (loopK (exec T check_checker_uses_l7) [t,t,f,t,t,t,f,f,f,t,t,f,f,f,t,t,t,f,f,f,f,f,f,f,f,f,f,t,t,t,f,t,t,t,f,f,f,f] 2) := exec_loop T s _ _ _
def check_checker_uses_b8 : Go.A.Code :=
   (.seq (.reg [w 30 (.bin .lss (.s 29) (.s 28))])
   (.seq (.cond (.s 30) .skip
   (.exit 6 [t,t,f,t,t,t,f,f,f,f,f,f,f,f,t,t,t,f,f,f,f,f,f,f,f,f,f,f,f,f,f,f,f,f,f,f,f,f] 1))
   (.seq (.block 7 (.seq (.reg [q (.mv (.s 29)), q (.ia 6 (.s 27) (.s 29)), q (.ld (some 6) (.l 0)), w 10 (.al [.f (.lit (.int .i64 0)), .f (.lit (.int .i64 0)), .f (.lit (.int .i64 0)), .f (.lit (.int .i64 0)), .f (.sl []), .f (.lit (.int .u64 0))] []), w 9 (.mv (.l 3)), e (.st 6 (.s 10) (.l 2))])
   (.seq (.reg [q (.ld (some 6) (.s 10)), w 31 (.call .cl (.c (.one (.fn F.kind_Takes [] []))) [(.l 0)]), w 32 (.len (.s 31)), w 33 (.mv (i 0))])
   (.block 8 check_checker_uses_l7))))
   (.reg [q (.bin .add (.s 29) (i 1)), w 29 (.mv (.l 0))]))))
def check_checker_uses_l8 : Go.A.Code := .loop [t,t,f,t,t,t,f,f,f,f,f,f,f,f,t,t,t,f,f,f,f,f,f,f,f,f,f,t,t,t,f,f,f,f,f,f,f,f] 1 check_checker_uses_b8
theorem check_checker_uses_l8_eq (T : Nat → Option Entry) (s : St) : exec T check_checker_uses_l8 s = (exec T check_checker_uses_b8 s).bind (loopK (exec T check_checker_uses_l8) [t,t,f,t,t,t,f,f,f,f,f,f,f,f,t,t,t,f,f,f,f,f,f,f,f,f,f,t,t,t,f,f,f,f,f,f,f,f] 1) := exec_loop T s _ _ _
def check_checker_uses_b9 : Go.A.Code :=
   (.seq (.reg [w 17 (.bin .lss (.s 16) (.s 15))])
   (.seq (.cond (.s 17) .skip
   (.exit 0 [f,f,f,t,f,f,f,f,f,f,f,f,f,f,f,f,f,f,f,f,f,f,f,f,f,f,f,f,f,f,f,f,f,f,f,f,f,f] 0))
   (.seq (.block 1 (.seq (.reg [q (.mv (.s 16)), q (.ia 5 (.s 14) (.s 16)), q (.ld (some 5) (.l 0)), w 5 (.al [.f (.sl []), .f (.sl []), .f (.lit (.int .i64 0)), .f (.lit (.int .i64 0)), .f (.sl [])] []), w 4 (.mv (.l 3)), e (.st 5 (.s 5) (.l 2))])
   (.seq (.seq (.reg [q (.fa 0 (.s 5)), w 18 (.ld none (.l 0)), w 19 (.len (.s 18)), w 20 (.mv (i 0))])
   (.block 2 check_checker_uses_l6))
   (.seq (.seq (.reg [q (.fa 1 (.s 5)), w 27 (.ld none (.l 0)), w 28 (.len (.s 27)), w 29 (.mv (i 0))])
   (.block 6 check_checker_uses_l8))
   (.seq (.reg [q (.mkm), q (.mv (.s 0)), q (.nil (.l 0)), q (.fa 0 (.l 0)), q (.fa 1 (.l 0)), q (.ld none (.l 0)), e (.mu (.l 5) (i 0) (.l 0)), e (.mu (.l 6) (i 2) (i 1)), q (.mv (.l 7)), q (.fa 2 (.s 5)), q (.fa 0 (.l 0)), q (.ld none (.l 0)), q (.lk (.one (.f (.lit (.int .i64 0)))) false (.l 3) (.l 0)), w 13 (.mv (.l 0))])
   (.seq (.seq (.reg [q (.mv (.s 13)), w 36 (.bin .eql (.l 0) (i 0))])
   (.cond (.s 36) (.exit 1 [t,t,f,t,f,f,f,f,f,f,f,f,f,f,t,t,t,f,f,f,f,f,f,f,f,f,f,f,f,f,f,f,f,f,f,f,f,f] 0)
   .skip))
   (.seq (.reg [q (.mv (.s 1)), q (.fa 2 (.s 5)), q (.fa 1 (.l 0)), q (.ld none (.l 0)), q (.mv (.s 13)), q (.call .cl (.c (.one (.fn F.check_scalar [] []))) [(.l 0)]), q (.mv (.s 4)), q (.call .op (.l 6) [(.l 3), (.l 1), (.l 0), (i 1048576)]), w 3 (.mv (.l 0))])
   (.seq (.reg [q (.mv (.s 3)), w 37 (.bin .neq (.l 0) (i 0))])
   (.cond (.s 37) (.goto 0 [f,f,f,t,f,f,f,f,f,f,f,f,f,f,f,f,f,f,f,f,f,f,f,f,f,f,f,f,f,f,f,f,f,f,f,f,f,f] 0)
   .skip)))))))))
   (.reg [q (.bin .add (.s 16) (i 1)), w 16 (.mv (.l 0))]))))
def check_checker_uses_l9 : Go.A.Code := .loop [t,t,f,t,f,f,f,f,f,f,f,f,f,f,t,t,t,f,f,f,f,f,f,f,f,f,f,f,f,f,f,f,f,f,f,f,f,f] 0 check_checker_uses_b9
theorem check_checker_uses_l9_eq (T : Nat → Option Entry) (s : St) : exec T check_checker_uses_l9 s = (exec T check_checker_uses_b9 s).bind (loopK (exec T check_checker_uses_l9) [t,t,f,t,f,f,f,f,f,f,f,f,f,f,t,t,t,f,f,f,f,f,f,f,f,f,f,f,f,f,f,f,f,f,f,f,f,f] 0) := exec_loop T s _ _ _
def check_checker_uses_s10 : Go.A.Code :=
   (.seq (.reg [w 3 (.mv (i 0))])
   (.seq (.seq (.reg [q (.mv (.s 0)), q (.nil (.l 0)), q (.fa 0 (.l 0)), q (.fa 2 (.l 0)), w 14 (.ld none (.l 0)), w 15 (.len (.s 14)), w 16 (.mv (i 0))])
   (.block 0 check_checker_uses_l9))
   (.seq (.label 0)
   (.seq (.reg [q (.mv (.s 3)), w 2 (.mv (.l 0))])
   (.ret [f,f,t,f,f,f,f,f,f,f,f,f,f,f,f,f,f,f,f,f,f,f,f,f,f,f,f,f,f,f,f,f,f,f,f,f,f,f])))))
def check_checker_uses_r10 : Go.A.Code := (findLabel check_checker_uses_s10 0).getD .skip
theorem check_checker_uses_r10_eq : findLabel check_checker_uses_s10 0 = some check_checker_uses_r10 := rfl
/-- (*lockstep/check.checker).uses -/
def a_check_checker_uses : Fun := { np := 2, nslots := 38, keep := 0, raw := false, results := [(2, none)], body :=
   (.seq (.reg [w 2 (.mv (i 0))])
   (.scope check_checker_uses_s10)) }
def k_check_checker_uses : List Go.Tmp := [0, 1, 4, 5, 6, 7, 9, 10, 11, 12, 13, 14, 15, 16, 21, 22, 23, 24, 29, 30, 31, 32, 36, 37, 38, 39, 55, 59, 60, 61, 62, 67, 68, 69, 70, 85, 100, 110]
theorem c_check_checker_uses : chkFun Go.Proofs.Tryz.prog (drawsOf Go.Proofs.Tryz.prog) k_check_checker_uses Go.Proofs.Tryz.f142 a_check_checker_uses = true := by kernel_rfl

/-- (*lockstep/check.checker).defined$1 -/
def a_check_checker_defined_1 : Fun := { np := 5, nslots := 8, keep := 0, raw := false, results := [(5, none)], body :=
   (.seq (.reg [q (.box 2 (.s 1)), w 5 (.mv (i 0))])
   (.seq (.seq (.reg [q (.ld none (.s 4)), q (.nil (.l 0)), q (.fa 7 (.l 0)), q (.ld none (.l 0)), q (.mv (.s 0)), q (.lk (.agg [.f (.lit (.int .i64 0)), .f (.lit (.int .i64 0)), .f (.lit (.int .i64 0)), .f (.lit (.int .i64 0))]) true (.l 1) (.l 0)), q (.mv (.l 0)), q (.ext (.l 0) 0), q (.ext (.l 1) 1), q (.al [.f (.lit (.int .i64 0)), .f (.lit (.int .i64 0)), .f (.lit (.int .i64 0)), .f (.lit (.int .i64 0))] []), e (.st 4 (.l 0) (.l 2)), w 6 (.mv (.l 2))])
   (.seq (.reg [q (.mv (.s 6)), w 7 (.un .not (.l 0))])
   (.cond (.s 7) (.seq (.reg [w 5 (.mv (i 7))])
   (.ret [f,f,f,f,f,t,f,f]))
   .skip)))
   (.seq (.reg [w 5 (.mv (i 0))])
   (.ret [f,f,f,f,f,t,f,f])))) }
def k_check_checker_defined_1 : List Go.Tmp := [0, 1, 2, 3, 4, 9, 11, 22]
theorem c_check_checker_defined_1 : chkFun Go.Proofs.Tryz.prog (drawsOf Go.Proofs.Tryz.prog) k_check_checker_defined_1 Go.Proofs.Tryz.f143 a_check_checker_defined_1 = true := by kernel_rfl

/-- (*lockstep/check.checker).shapes$1 -/
def a_check_checker_shapes_1 : Fun := { np := 5, nslots := 8, keep := 0, raw := false, results := [(6, none)], body :=
   (.seq (.reg [w 5 (.box 2 (.s 1)), w 6 (.mv (i 0))])
   (.seq (.seq (.reg [q (.ld none (.s 4)), q (.nil (.l 0)), q (.fa 7 (.l 0)), q (.ld none (.l 0)), q (.mv (.s 0)), q (.lk (.agg [.f (.lit (.int .i64 0)), .f (.lit (.int .i64 0)), .f (.lit (.int .i64 0)), .f (.lit (.int .i64 0))]) false (.l 1) (.l 0)), q (.fld 2 (some 2) (.l 0)), q (.ld (some 2) (.s 5)), w 7 (.eqa 2 true (.l 1) (.l 0))])
   (.cond (.s 7) (.seq (.reg [w 6 (.mv (i 6))])
   (.ret [f,f,f,f,f,f,t,f]))
   .skip))
   (.seq (.reg [w 6 (.mv (i 0))])
   (.ret [f,f,f,f,f,f,t,f])))) }
def k_check_checker_shapes_1 : List Go.Tmp := [0, 1, 2, 3, 4, 6, 9, 18]
theorem c_check_checker_shapes_1 : chkFun Go.Proofs.Tryz.prog (drawsOf Go.Proofs.Tryz.prog) k_check_checker_shapes_1 Go.Proofs.Tryz.f144 a_check_checker_shapes_1 = true := by kernel_rfl

/-- (*lockstep/check.checker).places$1 -/
def a_check_checker_places_1 : Fun := { np := 5, nslots := 9, keep := 0, raw := false, results := [(5, none)], body :=
   (.seq (.reg [q (.box 2 (.s 1)), w 5 (.mv (i 0))])
   (.seq (.reg [q (.ld none (.s 4)), q (.nil (.l 0)), q (.fa 7 (.l 0)), q (.ld none (.l 0)), q (.mv (.s 0)), q (.lk (.agg [.f (.lit (.int .i64 0)), .f (.lit (.int .i64 0)), .f (.lit (.int .i64 0)), .f (.lit (.int .i64 0))]) false (.l 1) (.l 0)), w 6 (.al [.f (.lit (.int .i64 0)), .f (.lit (.int .i64 0)), .f (.lit (.int .i64 0)), .f (.lit (.int .i64 0))] []), e (.st 4 (.s 6) (.l 1))])
   (.seq (.block 0 (.seq (.reg [q (.fa 0 (.s 6)), q (.ld none (.l 0)), q (.bin .lss (.l 0) (i 0)), w 7 (.mv (.l 0))])
   (.cond (.s 7) (.seq (.reg [w 5 (.mv (i 0))])
   (.ret [f,f,f,f,f,t,f,f,f]))
   (.seq (.seq (.reg [q (.fa 0 (.s 6)), q (.ld none (.l 0)), q (.mv (.s 2)), q (.bin .eql (.l 1) (.l 0)), q (.mv (.l 0)), ⟨.loc, .fa 1 (.s 6), (some (.l 0, true))⟩, ⟨.loc, .ld none (.l 0), (some (.l 1, true))⟩, ⟨.loc, .mv (.s 3), (some (.l 2, true))⟩, ⟨.loc, .bin .lss (.l 1) (.l 0), (some (.l 3, true))⟩, q (.pick (.l 4) (.l 0) (bo false)), w 8 (.mv (.l 0))])
   (.cond (.s 8) .skip
   (.reg [q (.fa 0 (.s 6)), q (.ld none (.l 0)), q (.mv (.s 2)), q (.bin .neq (.l 1) (.l 0)), q (.mv (.l 0)), ⟨.loc, .ld none (.s 4), (some (.l 0, true))⟩, ⟨.loc, .nil (.l 0), (some (.l 1, true))⟩, ⟨.loc, .fa 6 (.l 0), (some (.l 2, true))⟩, ⟨.loc, .ld none (.l 0), (some (.l 3, true))⟩, ⟨.loc, .fa 0 (.s 6), (some (.l 4, true))⟩, ⟨.loc, .ld none (.l 0), (some (.l 5, true))⟩, ⟨.loc, .mv (.s 2), (some (.l 6, true))⟩, ⟨.loc, .call .cl (.c (.one (.fn F.dom_Over [] []))) [(.l 3), (.l 1), (.l 0)], (some (.l 7, true))⟩, q (.pick (.l 8) (.l 0) (bo false)), w 8 (.mv (.l 0))])))
   (.cond (.s 8) (.seq (.reg [w 5 (.mv (i 0))])
   (.ret [f,f,f,f,f,t,f,f,f]))
   .skip)))))
   (.seq (.reg [w 5 (.mv (i 7))])
   (.ret [f,f,f,f,f,t,f,f,f]))))) }
def k_check_checker_places_1 : List Go.Tmp := [0, 1, 2, 3, 4, 9, 10, 17, 21]
theorem c_check_checker_places_1 : chkFun Go.Proofs.Tryz.prog (drawsOf Go.Proofs.Tryz.prog) k_check_checker_places_1 Go.Proofs.Tryz.f145 a_check_checker_places_1 = true := by kernel_rfl

/-- (*lockstep/eval.machine).constant -/
def a_eval_machine_constant : Fun := { np := 2, nslots := 5, keep := 0, raw := false, results := [(3, none), (4, none)], body :=
   (.seq (.reg [w 2 (.box 6 (.s 1)), w 3 (.mv (.c (.one (.f (.sl []))))), w 4 (.mv (i 0))])
   (.seq (.reg [q (.fa 5 (.s 2)), q (.ld none (.l 0)), q (.fa 2 (.s 2)), q (.ld none (.l 0)), q (.call .cl (.c (.one (.fn F.eval_same [] []))) [(.l 2), (.l 0)]), w 3 (.mv (.l 0)), w 4 (.mv (i 0))])
   (.ret [f,f,f,t,t]))) }
def k_eval_machine_constant : List Go.Tmp := [0, 1, 3, 4, 5]
theorem c_eval_machine_constant : chkFun Go.Proofs.Tryz.prog (drawsOf Go.Proofs.Tryz.prog) k_eval_machine_constant Go.Proofs.Tryz.f146 a_eval_machine_constant = true := by kernel_rfl

/-- (*lockstep/eval.machine).choose -/
def a_eval_machine_choose : Fun := { np := 2, nslots := 6, keep := 0, raw := false, results := [(3, none), (4, none)], body :=
   (.seq (.reg [w 2 (.box 6 (.s 1)), w 3 (.mv (.c (.one (.f (.sl []))))), w 4 (.mv (i 0))])
   (.seq (.seq (.reg [q (.mv (.s 0)), q (.ld (some 6) (.s 2)), q (.call .op (.c (.one (.fn F.eval_machine_one [] []))) [(.l 1), (.l 0), (i 0)]), w 5 (.bin .eql (.l 0) (ik .u64 1))])
   (.cond (.s 5) (.seq (.reg [q (.mv (.s 0)), q (.nil (.l 0)), q (.fa 4 (.l 0)), q (.ld none (.l 0)), q (.fa 4 (.s 2)), q (.ld none (.l 0)), q (.ia 1 (.l 0) (i 1)), q (.ld none (.l 0)), q (.lk (.one (.f (.sl []))) false (.l 4) (.l 0)), w 3 (.mv (.l 0)), w 4 (.mv (i 0))])
   (.ret [f,f,f,t,t,f]))
   .skip))
   (.seq (.reg [q (.mv (.s 0)), q (.nil (.l 0)), q (.fa 4 (.l 0)), q (.ld none (.l 0)), q (.fa 4 (.s 2)), q (.ld none (.l 0)), q (.ia 1 (.l 0) (i 2)), q (.ld none (.l 0)), q (.lk (.one (.f (.sl []))) false (.l 4) (.l 0)), w 3 (.mv (.l 0)), w 4 (.mv (i 0))])
   (.ret [f,f,f,t,t,f])))) }
def k_eval_machine_choose : List Go.Tmp := [0, 1, 3, 4, 5, 9]
theorem c_eval_machine_choose : chkFun Go.Proofs.Tryz.prog (drawsOf Go.Proofs.Tryz.prog) k_eval_machine_choose Go.Proofs.Tryz.f147 a_eval_machine_choose = true := by kernel_rfl

/-- (*lockstep/eval.machine).width -/
def a_eval_machine_width : Fun := { np := 2, nslots := 5, keep := 0, raw := false, results := [(3, none), (4, none)], body :=
   (.seq (.reg [w 2 (.box 6 (.s 1)), w 3 (.mv (.c (.one (.f (.sl []))))), w 4 (.mv (i 0))])
   (.seq (.regd [(4, 2)] [q (.mv (.s 0)), q (.ld (some 6) (.s 2)), q (.call .op (.c (.one (.fn F.eval_machine_one [] []))) [(.l 1), (.l 0), (i 0)]), q (.fa 1 (.s 2)), q (.ld none (.l 0)), q (.call .cl (.c (.one (.fn F.word_Cut [] []))) [(.l 2), (.l 0)]), q (.call .cl (.c (.one (.fn F.eval_same [] []))) [(.l 0), (i 1)]), w 3 (.mv (.l 0)), w 4 (.mv (i 0))])
   (.ret [f,f,f,t,t]))) }
def k_eval_machine_width : List Go.Tmp := [0, 1, 3, 4, 5]
theorem c_eval_machine_width : chkFun Go.Proofs.Tryz.prog (drawsOf Go.Proofs.Tryz.prog) k_eval_machine_width Go.Proofs.Tryz.f148 a_eval_machine_width = true := by kernel_rfl

/-- (*lockstep/eval.machine).load -/
def a_eval_machine_load : Fun := { np := 2, nslots := 5, keep := 0, raw := false, results := [(3, none), (4, none)], body :=
   (.seq (.reg [w 2 (.box 6 (.s 1)), w 3 (.mv (.c (.one (.f (.sl []))))), w 4 (.mv (i 0))])
   (.seq (.regd [(3, 11), (8, 6), (10, 6)] [q (.mv (.s 0)), q (.nil (.l 0)), q (.fa 0 (.l 0)), q (.ld none (.l 0)), q (.mv (.s 0)), q (.ld (some 6) (.s 2)), q (.call .op (.c (.one (.fn F.eval_machine_one [] []))) [(.l 1), (.l 0), (i 0)]), q (.fa 1 (.s 2)), q (.ld none (.l 0)), q (.fa 2 (.s 2)), q (.ld none (.l 0)), q (.call .op (.c (.one (.fn F.mem_Mem_Read [] []))) [(.l 7), (.l 4), (.l 2), (.l 0)]), q (.ext (.l 0) 0), q (.ext (.l 1) 1), w 3 (.mv (.l 1)), w 4 (.mv (.l 1))])
   (.ret [f,f,f,t,t]))) }
def k_eval_machine_load : List Go.Tmp := [0, 1, 3, 4, 5]
theorem c_eval_machine_load : chkFun Go.Proofs.Tryz.prog (drawsOf Go.Proofs.Tryz.prog) k_eval_machine_load Go.Proofs.Tryz.f149 a_eval_machine_load = true := by kernel_rfl

/-- (*lockstep/eval.machine).store -/
def a_eval_machine_store : Fun := { np := 2, nslots := 5, keep := 0, raw := false, results := [(3, none), (4, none)], body :=
   (.seq (.reg [w 2 (.box 6 (.s 1)), w 3 (.mv (.c (.one (.f (.sl []))))), w 4 (.mv (i 0))])
   (.seq (.regd [(3, 18), (8, 6), (12, 6), (14, 6), (15, 6), (16, 6), (17, 6)] [q (.mv (.s 0)), q (.nil (.l 0)), q (.fa 0 (.l 0)), q (.ld none (.l 0)), q (.mv (.s 0)), q (.ld (some 6) (.s 2)), q (.call .op (.c (.one (.fn F.eval_machine_one [] []))) [(.l 1), (.l 0), (i 0)]), q (.fa 1 (.s 2)), q (.ld none (.l 0)), q (.mv (.s 0)), q (.nil (.l 0)), q (.fa 4 (.l 0)), q (.ld none (.l 0)), q (.fa 4 (.s 2)), q (.ld none (.l 0)), q (.ia 1 (.l 0) (i 1)), q (.ld none (.l 0)), q (.lk (.one (.f (.sl []))) false (.l 4) (.l 0)), q (.call .op (.c (.one (.fn F.mem_Mem_Write [] []))) [(.l 14), (.l 11), (.l 9), (.l 0)]), w 3 (.mv (.c (.one (.f (.sl []))))), w 4 (.mv (.l 1))])
   (.ret [f,f,f,t,t]))) }
def k_eval_machine_store : List Go.Tmp := [0, 1, 3, 4, 5]
theorem c_eval_machine_store : chkFun Go.Proofs.Tryz.prog (drawsOf Go.Proofs.Tryz.prog) k_eval_machine_store Go.Proofs.Tryz.f150 a_eval_machine_store = true := by kernel_rfl

def eval_machine_pack_b0 : Go.A.Code :=
   (.seq (.reg [w 9 (.bin .lss (.s 8) (.s 7))])
   (.seq (.cond (.s 9) .skip
   (.exit 0 [f,f,f,f,f,t,f,f,f,f] 2))
   (.seq (.block 1 (.seq (.reg [q (.mv (.s 8)), w 6 (.mv (.l 0))])
   (.reg [q (.mv (.s 5)), q (.mv (.s 0)), q (.ld (some 6) (.s 2)), q (.mv (.s 6)), q (.call .op (.c (.one (.fn F.eval_machine_one [] []))) [(.l 2), (.l 1), (.l 0)]), q (.bsl .fz 1 [[.f (.lit (.int .u64 0))]] [(0, (.l 0))]), q (.app 1 (.l 5) (.l 0)), w 5 (.mv (.l 0))])))
   (.reg [q (.bin .add (.s 8) (i 1)), w 8 (.mv (.l 0))]))))
def eval_machine_pack_l0 : Go.A.Code := .loop [t,f,t,f,f,t,f,t,t,f] 2 eval_machine_pack_b0
theorem eval_machine_pack_l0_eq (T : Nat → Option Entry) (s : St) : exec T eval_machine_pack_l0 s = (exec T eval_machine_pack_b0 s).bind (loopK (exec T eval_machine_pack_l0) [t,f,t,f,f,t,f,t,t,f] 2) := exec_loop T s _ _ _
/-- (*lockstep/eval.machine).pack -/
def a_eval_machine_pack : Fun := { np := 2, nslots := 10, keep := 0, raw := false, results := [(3, none), (4, none)], body :=
   (.seq (.reg [w 2 (.box 6 (.s 1)), w 3 (.mv (.c (.one (.f (.sl []))))), w 4 (.mv (i 0))])
   (.seq (.reg [w 5 (.nl .tk 1)])
   (.seq (.seq (.reg [q (.fa 4 (.s 2)), q (.ld none (.l 0)), w 7 (.len (.l 0)), w 8 (.mv (i 0))])
   (.block 0 eval_machine_pack_l0))
   (.seq (.reg [q (.mv (.s 5)), w 3 (.mv (.l 0)), w 4 (.mv (i 0))])
   (.ret [f,f,f,t,t,f,f,f,f,f]))))) }
def k_eval_machine_pack : List Go.Tmp := [0, 1, 3, 4, 5, 6, 7, 10, 11, 12]
theorem c_eval_machine_pack : chkFun Go.Proofs.Tryz.prog (drawsOf Go.Proofs.Tryz.prog) k_eval_machine_pack Go.Proofs.Tryz.f151 a_eval_machine_pack = true := by kernel_rfl

/-- (*lockstep/eval.machine).get -/
def a_eval_machine_get : Fun := { np := 2, nslots := 5, keep := 0, raw := false, results := [(3, none), (4, none)], body :=
   (.seq (.reg [w 2 (.box 6 (.s 1)), w 3 (.mv (.c (.one (.f (.sl []))))), w 4 (.mv (i 0))])
   (.seq (.reg [q (.mv (.s 0)), q (.nil (.l 0)), q (.fa 4 (.l 0)), q (.ld none (.l 0)), q (.fa 4 (.s 2)), q (.ld none (.l 0)), q (.ia 1 (.l 0) (i 0)), q (.ld none (.l 0)), q (.lk (.one (.f (.sl []))) false (.l 4) (.l 0)), q (.fa 5 (.s 2)), q (.ld none (.l 0)), q (.ia 1 (.l 2) (.l 0)), q (.ld none (.l 0)), q (.call .cl (.c (.one (.fn F.eval_same [] []))) [(.l 0), (i 1)]), w 3 (.mv (.l 0)), w 4 (.mv (i 0))])
   (.ret [f,f,f,t,t]))) }
def k_eval_machine_get : List Go.Tmp := [0, 1, 3, 4, 5]
theorem c_eval_machine_get : chkFun Go.Proofs.Tryz.prog (drawsOf Go.Proofs.Tryz.prog) k_eval_machine_get Go.Proofs.Tryz.f152 a_eval_machine_get = true := by kernel_rfl

def eval_machine_two_b0 : Go.A.Code :=
   (.seq (.reg [w 13 (.bin .lss (.s 12) (.s 11))])
   (.seq (.cond (.s 13) .skip
   (.exit 0 [f,f,f,f,f,t,f,f,f,f,f,f,f,f,f] 2))
   (.seq (.block 1 (.seq (.reg [q (.mv (.s 12)), w 8 (.mv (.l 0))])
   (.seq (.reg [q (.fa 0 (.s 2)), q (.ld none (.l 0)), q (.fa 1 (.s 2)), q (.ld none (.l 0)), q (.mv (.s 6)), q (.mv (.s 8)), q (.ia 1 (.l 1) (.l 0)), q (.ld none (.l 0)), q (.mv (.s 7)), q (.mv (.s 8)), q (.ia 1 (.l 1) (.l 0)), q (.ld none (.l 0)), q (.call .cl (.c (.one (.fn F.word_Do [] []))) [(.l 10), (.l 8), (.l 4), (.l 0)]), q (.mv (.l 0)), q (.ext (.l 0) 0), q (.ext (.l 1) 1), w 9 (.mv (.l 1)), w 10 (.mv (.l 1))])
   (.seq (.seq (.reg [q (.mv (.s 10)), w 14 (.bin .neq (.l 0) (i 0))])
   (.cond (.s 14) (.seq (.reg [q (.mv (.s 10)), w 3 (.mv (.c (.one (.f (.sl []))))), w 4 (.mv (.l 1))])
   (.ret [f,f,f,t,t,f,f,f,f,f,f,f,f,f,f]))
   .skip))
   (.reg [q (.mv (.s 5)), q (.mv (.s 9)), q (.bsl .fz 1 [[.f (.lit (.int .u64 0))]] [(0, (.l 0))]), q (.app 1 (.l 2) (.l 0)), w 5 (.mv (.l 0))])))))
   (.reg [q (.bin .add (.s 12) (i 1)), w 12 (.mv (.l 0))]))))
def eval_machine_two_l0 : Go.A.Code := .loop [f,f,t,f,f,t,t,t,f,f,f,t,t,f,f] 2 eval_machine_two_b0
theorem eval_machine_two_l0_eq (T : Nat → Option Entry) (s : St) : exec T eval_machine_two_l0 s = (exec T eval_machine_two_b0 s).bind (loopK (exec T eval_machine_two_l0) [f,f,t,f,f,t,t,t,f,f,f,t,t,f,f] 2) := exec_loop T s _ _ _
/-- (*lockstep/eval.machine).two -/
def a_eval_machine_two : Fun := { np := 2, nslots := 15, keep := 0, raw := false, results := [(3, none), (4, none)], body :=
   (.seq (.reg [w 2 (.box 6 (.s 1)), w 3 (.mv (.c (.one (.f (.sl []))))), w 4 (.mv (i 0))])
   (.seq (.reg [w 5 (.nl .tk 1)])
   (.seq (.reg [q (.mv (.s 0)), q (.nil (.l 0)), q (.fa 4 (.l 0)), q (.ld none (.l 0)), q (.fa 4 (.s 2)), q (.ld none (.l 0)), q (.ia 1 (.l 0) (i 0)), q (.ld none (.l 0)), q (.lk (.one (.f (.sl []))) false (.l 4) (.l 0)), q (.mv (.s 0)), q (.nil (.l 0)), q (.fa 4 (.l 0)), q (.ld none (.l 0)), q (.fa 4 (.s 2)), q (.ld none (.l 0)), q (.ia 1 (.l 0) (i 1)), q (.ld none (.l 0)), q (.lk (.one (.f (.sl []))) false (.l 4) (.l 0)), w 6 (.mv (.l 9)), w 7 (.mv (.l 1))])
   (.seq (.seq (.reg [q (.mv (.s 6)), w 11 (.len (.l 0)), w 12 (.mv (i 0))])
   (.block 0 eval_machine_two_l0))
   (.seq (.reg [q (.mv (.s 5)), w 3 (.mv (.l 0)), w 4 (.mv (i 0))])
   (.ret [f,f,f,t,t,f,f,f,f,f,f,f,f,f,f])))))) }
def k_eval_machine_two : List Go.Tmp := [0, 1, 3, 4, 5, 6, 7, 8, 9, 10, 11, 31, 32, 33, 52]
theorem c_eval_machine_two : chkFun Go.Proofs.Tryz.prog (drawsOf Go.Proofs.Tryz.prog) k_eval_machine_two Go.Proofs.Tryz.f153 a_eval_machine_two = true := by kernel_rfl

/-- (*lockstep/eval.machine).guarded$1 -/
def a_eval_machine_guarded_1 : Fun := { np := 4, nslots := 9, keep := 0, raw := false, results := [(5, none), (6, none)], body :=
   (.seq (.reg [w 4 (.box 6 (.s 0)), w 5 (.mv (.c (.one (.f (.sl []))))), w 6 (.mv (i 0))])
   (.seq (.seq (.reg [q (.ld none (.s 1)), q (.ld (some 6) (.s 4)), q (.call .op (.c (.one (.fn F.eval_machine_one [] []))) [(.l 1), (.l 0), (i 0)]), w 8 (.bin .neq (.l 0) (ik .u64 1))])
   (.cond (.s 8) (.seq (.reg [q (.ld none (.s 1)), q (.nil (.l 0)), q (.fa 4 (.l 0)), q (.ld none (.l 0)), q (.fa 4 (.s 4)), q (.ld none (.l 0)), q (.fa 4 (.s 4)), q (.ld none (.l 0)), q (.len (.l 0)), q (.bin .sub (.l 0) (i 1)), q (.ia 1 (.l 4) (.l 0)), q (.ld none (.l 0)), q (.lk (.one (.f (.sl []))) false (.l 8) (.l 0)), w 5 (.mv (.l 0)), w 6 (.mv (i 0))])
   (.ret [f,f,f,f,f,t,t,f,f]))
   .skip))
   (.seq (.reg [q (.ld (some 6) (.s 4)), w 7 (.al [.f (.lit (.int .i64 0)), .f (.lit (.int .i64 0)), .f (.lit (.int .i64 0)), .f (.lit (.int .i64 0)), .f (.sl []), .f (.lit (.int .u64 0))] []), e (.st 6 (.s 7) (.l 1))])
   (.seq (.regd [(2, 8), (3, 8)] [q (.ld none (.s 2)), q (.fa 4 (.s 4)), q (.ld none (.l 0)), q (.ld none (.s 3)), q (.bin .add (i 1) (.l 0)), q (.slc 1 (.l 2) (some (i 1)) (some (.l 0)) none), q (.fa 0 (.s 7)), e (.st 1 (.l 0) (.l 6)), q (.fa 4 (.s 7)), e (.st 1 (.l 0) (.l 3))])
   (.seq (.regd [(2, 1), (4, 1)] [q (.ld none (.s 1)), q (.call .op (.c (.one (.fn F.eval_machine_ways [] []))) [(.l 0)]), q (.ld none (.s 2)), q (.lk (.one (.f (.lit .nilFunc))) false (.l 1) (.l 0)), q (.ld (some 6) (.s 7)), q (.call .op (.l 1) [(.l 0)]), q (.ext (.l 0) 0), q (.ext (.l 1) 1), w 5 (.mv (.l 1)), w 6 (.mv (.l 1))])
   (.ret [f,f,f,f,f,t,t,f,f])))))) }
def k_eval_machine_guarded_1 : List Go.Tmp := [0, 1, 2, 3, 4, 5, 6, 7, 11]
theorem c_eval_machine_guarded_1 : chkFun Go.Proofs.Tryz.prog (drawsOf Go.Proofs.Tryz.prog) k_eval_machine_guarded_1 Go.Proofs.Tryz.f154 a_eval_machine_guarded_1 = true := by kernel_rfl

/-- (*lockstep/eval.machine).one -/
def a_eval_machine_one : Fun := { np := 3, nslots := 5, keep := 0, raw := false, results := [(4, none)], body :=
   (.seq (.reg [w 3 (.box 6 (.s 1)), w 4 (.mv (ik .u64 0))])
   (.seq (.reg [q (.mv (.s 0)), q (.nil (.l 0)), q (.fa 4 (.l 0)), q (.ld none (.l 0)), q (.fa 4 (.s 3)), q (.ld none (.l 0)), q (.mv (.s 2)), q (.ia 1 (.l 1) (.l 0)), q (.ld none (.l 0)), q (.lk (.one (.f (.sl []))) false (.l 5) (.l 0)), q (.ia 1 (.l 0) (i 0)), q (.ld none (.l 0)), w 4 (.mv (.l 0))])
   (.ret [f,f,f,f,t]))) }
def k_eval_machine_one : List Go.Tmp := [0, 1, 2, 4, 6]
theorem c_eval_machine_one : chkFun Go.Proofs.Tryz.prog (drawsOf Go.Proofs.Tryz.prog) k_eval_machine_one Go.Proofs.Tryz.f155 a_eval_machine_one = true := by kernel_rfl

/-- lockstep/code.in$1 -/
def a_code_in_1 : Fun := { np := 1, nslots := 2, keep := 0, raw := false, results := [(1, none)], body :=
   (.seq (.reg [w 1 (.mv (bo false))])
   (.seq (.reg [q (.mv (.s 0)), q (.bin .lss (.l 0) (i 0)), q (.mv (.l 0)), ⟨.loc, .mv (.s 0), (some (.l 0, false))⟩, ⟨.loc, .bin .gtr (.l 0) (i 2147483647), (some (.l 1, false))⟩, q (.pick (.l 2) (bo true) (.l 0)), w 1 (.mv (.l 0))])
   (.ret [f,t]))) }
def k_code_in_1 : List Go.Tmp := [0, 2]
theorem c_code_in_1 : chkFun Go.Proofs.Tryz.prog (drawsOf Go.Proofs.Tryz.prog) k_code_in_1 Go.Proofs.Tryz.f158 a_code_in_1 = true := by kernel_rfl

def slices_IndexFunc_Block_b0 : Go.A.Code :=
   (.seq (.reg [w 6 (.bin .lss (.s 5) (.s 4))])
   (.seq (.cond (.s 6) .skip
   (.exit 0 [f,f,f,f,f,f,f,f] 0))
   (.seq (.block 1 (.seq (.reg [q (.mv (.s 5)), w 3 (.mv (.l 0))])
   (.seq (.reg [q (.mv (.s 1)), q (.mv (.s 0)), q (.mv (.s 3)), q (.ia 5 (.l 1) (.l 0)), q (.ld (some 5) (.l 0)), w 7 (.call .op (.l 4) [(.l 0)])])
   (.cond (.s 7) (.seq (.reg [q (.mv (.s 3)), w 2 (.mv (.l 0))])
   (.ret [f,f,t,f,f,f,f,f]))
   .skip))))
   (.reg [q (.bin .add (.s 5) (i 1)), w 5 (.mv (.l 0))]))))
def slices_IndexFunc_Block_l0 : Go.A.Code := .loop [t,t,f,f,t,t,f,f] 0 slices_IndexFunc_Block_b0
theorem slices_IndexFunc_Block_l0_eq (T : Nat → Option Entry) (s : St) : exec T slices_IndexFunc_Block_l0 s = (exec T slices_IndexFunc_Block_b0 s).bind (loopK (exec T slices_IndexFunc_Block_l0) [t,t,f,f,t,t,f,f] 0) := exec_loop T s _ _ _
/-- slices.IndexFunc[[]lockstep/api.Block,lockstep/api.Block] -/
def a_slices_IndexFunc_Block : Fun := { np := 2, nslots := 8, keep := 0, raw := false, results := [(2, none)], body :=
   (.seq (.reg [w 2 (.mv (i 0))])
   (.seq (.seq (.reg [q (.mv (.s 0)), w 4 (.len (.l 0)), w 5 (.mv (i 0))])
   (.block 0 slices_IndexFunc_Block_l0))
   (.seq (.reg [w 2 (.mv (i (-1)))])
   (.ret [f,f,t,f,f,f,f,f])))) }
def k_slices_IndexFunc_Block : List Go.Tmp := [0, 1, 4, 5, 7, 8, 9, 16]
theorem c_slices_IndexFunc_Block : chkFun Go.Proofs.Tryz.prog (drawsOf Go.Proofs.Tryz.prog) k_slices_IndexFunc_Block Go.Proofs.Tryz.f159 a_slices_IndexFunc_Block = true := by kernel_rfl

def code_lists_b0 : Go.A.Code :=
   (.seq (.reg [w 6 (.bin .lss (.s 5) (.s 4))])
   (.seq (.cond (.s 6) .skip
   (.exit 0 [f,f,f,f,f,f,f,f] 0))
   (.seq (.block 1 (.seq (.reg [q (.ia 1 (.s 3) (.s 5)), q (.ld none (.l 0)), w 2 (.mv (.l 0))])
   (.seq (.reg [q (.mv (.s 2)), q (.len (.l 0)), q (.bin .gtr (.l 0) (i 64)), q (.mv (.l 0)), ⟨.loc, .mv (.s 2), (some (.l 0, false))⟩, ⟨.loc, .call .cl (.c (.one (.fn F.code_in [] []))) [(.l 0)], (some (.l 1, false))⟩, ⟨.loc, .un .not (.l 0), (some (.l 2, false))⟩, w 7 (.pick (.l 3) (bo true) (.l 0))])
   (.cond (.s 7) (.seq (.reg [w 1 (.mv (bo false))])
   (.ret [f,t,f,f,f,f,f,f]))
   .skip))))
   (.reg [q (.bin .add (.s 5) (i 1)), w 5 (.mv (.l 0))]))))
def code_lists_l0 : Go.A.Code := .loop [f,f,f,t,t,t,f,f] 0 code_lists_b0
theorem code_lists_l0_eq (T : Nat → Option Entry) (s : St) : exec T code_lists_l0 s = (exec T code_lists_b0 s).bind (loopK (exec T code_lists_l0) [f,f,f,t,t,t,f,f] 0) := exec_loop T s _ _ _
/-- lockstep/code.lists -/
def a_code_lists : Fun := { np := 1, nslots := 8, keep := 0, raw := false, results := [(1, none)], body :=
   (.seq (.reg [w 1 (.mv (bo false))])
   (.seq (.seq (.reg [w 3 (.mv (.s 0)), w 4 (.len (.s 3)), w 5 (.mv (i 0))])
   (.block 0 code_lists_l0))
   (.seq (.reg [w 1 (.mv (bo true))])
   (.ret [f,t,f,f,f,f,f,f])))) }
def k_code_lists : List Go.Tmp := [0, 2, 4, 5, 6, 7, 8, 18]
theorem c_code_lists : chkFun Go.Proofs.Tryz.prog (drawsOf Go.Proofs.Tryz.prog) k_code_lists Go.Proofs.Tryz.f160 a_code_lists = true := by kernel_rfl

/-- lockstep/graph.goes -/
def a_graph_goes : Fun := { np := 1, nslots := 6, keep := 0, raw := false, results := [(1, none)], body :=
   (.seq (.reg [w 1 (.mv (i 0))])
   (.seq (.seq (.reg [w 2 (.mv (.s 0))])
   (.block 0 (.seq (.seq (.reg [q (.bin .eql (.s 2) (i 0)), w 3 (.mv (.l 0))])
   (.cond (.s 3) .skip
   (.reg [q (.bin .eql (.s 2) (i 3)), w 3 (.mv (.l 0))])))
   (.cond (.s 3) (.seq (.reg [w 1 (.mv (i 0))])
   (.ret [f,t,f,f,f,f]))
   (.seq (.reg [q (.bin .eql (.s 2) (i 1)), w 4 (.mv (.l 0))])
   (.cond (.s 4) (.seq (.reg [w 1 (.mv (i 1))])
   (.ret [f,t,f,f,f,f]))
   (.seq (.reg [q (.bin .eql (.s 2) (i 2)), w 5 (.mv (.l 0))])
   (.cond (.s 5) (.seq (.reg [w 1 (.mv (i 2))])
   (.ret [f,t,f,f,f,f]))
   .skip))))))))
   (.seq (.reg [w 1 (.mv (i (-1)))])
   (.ret [f,t,f,f,f,f])))) }
def k_graph_goes : List Go.Tmp := [0, 2, 3, 4, 7, 9]
theorem c_graph_goes : chkFun Go.Proofs.Tryz.prog (drawsOf Go.Proofs.Tryz.prog) k_graph_goes Go.Proofs.Tryz.f164 a_graph_goes = true := by kernel_rfl

/-- lockstep/graph.Of$1 -/
def a_graph_Of_1 : Fun := { np := 2, nslots := 3, keep := 0, raw := false, results := [(2, none)], body :=
   (.seq (.reg [w 2 (.mv (bo false))])
   (.seq (.reg [q (.mv (.s 0)), q (.bin .lss (.l 0) (i 1)), q (.mv (.l 0)), ⟨.loc, .mv (.s 0), (some (.l 0, false))⟩, ⟨.loc, .ld none (.s 1), (some (.l 1, false))⟩, ⟨.loc, .bin .geq (.l 1) (.l 0), (some (.l 2, false))⟩, q (.pick (.l 3) (bo true) (.l 0)), w 2 (.mv (.l 0))])
   (.ret [f,f,t]))) }
def k_graph_Of_1 : List Go.Tmp := [0, 1, 3]
theorem c_graph_Of_1 : chkFun Go.Proofs.Tryz.prog (drawsOf Go.Proofs.Tryz.prog) k_graph_Of_1 Go.Proofs.Tryz.f165 a_graph_Of_1 = true := by kernel_rfl

/-- slices.Values[[]int,int] -/
def a_slices_Values_int : Fun := { np := 1, nslots := 3, keep := 1, raw := false, results := [(2, none)], body :=
   (.seq (.reg [w 1 (.box 1 (.s 0)), w 2 (.mv (.c (.one (.f (.lit .nilFunc)))))])
   (.seq (.reg [q (.mkf F.slices_Values_int_int__1 [] [(.s 1)]), w 2 (.mv (.l 0))])
   (.ret [f,f,t]))) }
def k_slices_Values_int : List Go.Tmp := [0, 1, 2]
theorem c_slices_Values_int : chkFun Go.Proofs.Tryz.prog (drawsOf Go.Proofs.Tryz.prog) k_slices_Values_int Go.Proofs.Tryz.f168 a_slices_Values_int = true := by kernel_rfl

def graph_Make_b0 : Go.A.Code :=
   (.seq (.reg [w 10 (.bin .lss (.s 9) (.s 8))])
   (.seq (.cond (.s 10) .skip
   (.exit 0 [f,t,f,f,t,f,f,f,f,f,f] 3))
   (.seq (.block 1 (.seq (.reg [q (.ia 1 (.s 7) (.s 9)), q (.ld none (.l 0)), w 5 (.mv (.l 0))])
   (.reg [q (.mv (.s 4)), q (.mv (.s 5)), q (.call .cl (.c (.one (.fn F.slices_Clone_int [] []))) [(.l 0)]), q (.bsl .fz 1 [[.f (.sl [])]] [(0, (.l 0))]), q (.app 1 (.l 3) (.l 0)), w 4 (.mv (.l 0))])))
   (.reg [q (.bin .add (.s 9) (i 1)), w 9 (.mv (.l 0))]))))
def graph_Make_l0 : Go.A.Code := .loop [f,t,f,f,t,f,f,t,t,t,f] 3 graph_Make_b0
theorem graph_Make_l0_eq (T : Nat → Option Entry) (s : St) : exec T graph_Make_l0 s = (exec T graph_Make_b0 s).bind (loopK (exec T graph_Make_l0) [f,t,f,f,t,f,f,t,t,t,f] 3) := exec_loop T s _ _ _
/-- lockstep/graph.Make -/
def a_graph_Make : Fun := { np := 1, nslots := 11, keep := 0, raw := false, results := [(1, some (some 2)), (2, none)], body :=
   (.seq (.reg [w 1 (.al [.f (.sl []), .f (.sl [])] []), w 2 (.mv (i 0))])
   (.seq (.reg [q (.mv (.s 0)), q (.len (.l 0)), w 3 (.al [.f (.lit (.int .i64 0))] []), e (.st 1 (.s 3) (.l 1))])
   (.seq (.seq (.reg [q (.ld none (.s 3)), q (.bin .lss (.l 0) (i 1)), q (.mv (.l 0)), ⟨.loc, .ld none (.s 3), (some (.l 0, false))⟩, ⟨.loc, .bin .gtr (.l 0) (i 64), (some (.l 1, false))⟩, q (.pick (.l 2) (bo true) (.l 0)), q (.mv (.l 0)), ⟨.loc, .mv (.s 0), (some (.l 0, false))⟩, ⟨.loc, .mkf F.graph_Make_1 [] [(.s 3)], (some (.l 1, false))⟩, ⟨.loc, .call .op (.c (.one (.fn F.slices_ContainsFunc_sint [] []))) [(.l 1), (.l 0)], (some (.l 2, false))⟩, w 6 (.pick (.l 3) (bo true) (.l 0))])
   (.cond (.s 6) (.seq (.reg [q (.bld [.f (.sl []), .f (.sl [])] [] []), e (.st 2 (.s 1) (.l 0)), w 2 (.mv (i 5))])
   (.ret [f,t,t,f,f,f,f,f,f,f,f]))
   .skip))
   (.seq (.reg [q (.ld none (.s 3)), q (.mkc 1 (.l 0)), w 4 (.mv (.l 0))])
   (.seq (.seq (.reg [w 7 (.mv (.s 0)), w 8 (.len (.s 7)), w 9 (.mv (i 0))])
   (.block 0 graph_Make_l0))
   (.seq (.reg [q (.mv (.s 4)), q (.mv (.s 4)), q (.call .cl (.c (.one (.fn F.graph_preds [] []))) [(.l 0)]), q (.bld [.f (.sl []), .f (.sl [])] [(0, 1, (.l 2)), (1, 1, (.l 0))] []), e (.st 2 (.s 1) (.l 0)), w 2 (.mv (i 0))])
   (.ret [f,t,t,f,f,f,f,f,f,f,f]))))))) }
def k_graph_Make : List Go.Tmp := [0, 2, 3, 4, 5, 7, 20, 24, 25, 26, 27]
theorem c_graph_Make : chkFun Go.Proofs.Tryz.prog (drawsOf Go.Proofs.Tryz.prog) k_graph_Make Go.Proofs.Tryz.f169 a_graph_Make = true := by kernel_rfl

def graph_Order_b0 : Go.A.Code :=
   (.seq (.seq (.reg [q (.mv (.s 8)), q (.iaa 64 1 (.s 5) (.l 0)), q (.ld none (.l 0)), q (.fa 0 (.s 2)), q (.ld none (.l 0)), q (.mv (.s 8)), q (.ia 1 (.l 1) (.l 0)), q (.ld none (.l 0)), q (.len (.l 0)), w 11 (.bin .lss (.l 6) (.l 0))])
   (.cond (.s 11) .skip
   (.exit 0 [f,f,t,f,t,t,t,t,t,f,f,f,f,f] 5)))
   (.block 1 (.seq (.reg [q (.fa 0 (.s 2)), q (.ld none (.l 0)), q (.mv (.s 8)), q (.ia 1 (.l 1) (.l 0)), q (.ld none (.l 0)), q (.mv (.s 8)), q (.iaa 64 1 (.s 5) (.l 0)), q (.ld none (.l 0)), q (.ia 1 (.l 3) (.l 0)), q (.ld none (.l 0)), w 9 (.mv (.l 0))])
   (.seq (.reg [q (.mv (.s 8)), q (.iaa 64 1 (.s 5) (.l 0)), q (.ld none (.l 0)), q (.bin .add (.l 0) (i 1)), q (.iaa 64 1 (.s 5) (.l 3)), e (.st 1 (.l 0) (.l 1))])
   (.seq (.reg [q (.mv (.s 9)), q (.iaa 64 1 (.s 4) (.l 0)), q (.ld none (.l 0)), w 12 (.un .not (.l 0))])
   (.cond (.s 12) (.seq (.reg [q (.mv (.s 9)), q (.iaa 64 1 (.s 4) (.l 0)), e (.st 1 (.l 0) (bo true))])
   (.seq (.reg [q (.mv (.s 7)), q (.mv (.s 9)), q (.bsl .fz 1 [[.f (.lit (.int .i64 0))]] [(0, (.l 0))]), q (.app 1 (.l 2) (.l 0)), w 7 (.mv (.l 0))])
   (.goto 0 [f,f,t,f,t,t,t,t,f,f,f,f,f,f] 5)))
   .skip))))))
def graph_Order_l0 : Go.A.Code := .loop [f,f,t,f,t,t,t,t,t,f,f,f,f,f] 5 graph_Order_b0
theorem graph_Order_l0_eq (T : Nat → Option Entry) (s : St) : exec T graph_Order_l0 s = (exec T graph_Order_b0 s).bind (loopK (exec T graph_Order_l0) [f,f,t,f,t,t,t,t,t,f,f,f,f,f] 5) := exec_loop T s _ _ _
def graph_Order_s1 : Go.A.Code :=
   (.seq (.seq (.reg [q (.ld (some 2) (.s 2)), q (.call .cl (.c (.one (.fn F.graph_May [] []))) [(.l 0)]), q (.un .not (.l 0)), q (.mv (.l 0)), ⟨.loc, .mv (.s 1), (some (.l 0, false))⟩, ⟨.loc, .bin .lss (.l 0) (i 0), (some (.l 1, false))⟩, q (.pick (.l 2) (bo true) (.l 0)), q (.mv (.l 0)), ⟨.loc, .mv (.s 1), (some (.l 0, false))⟩, ⟨.loc, .fa 0 (.s 2), (some (.l 1, false))⟩, ⟨.loc, .ld none (.l 0), (some (.l 2, false))⟩, ⟨.loc, .len (.l 0), (some (.l 3, false))⟩, ⟨.loc, .bin .geq (.l 3) (.l 0), (some (.l 4, false))⟩, w 10 (.pick (.l 5) (bo true) (.l 0))])
   (.cond (.s 10) (.seq (.reg [w 3 (.mv (.c (.one (.f (.sl [])))))])
   (.ret [f,f,f,t,f,f,f,f,f,f,f,f,f,f]))
   .skip))
   (.seq (.reg [w 4 (.al ((List.replicate 64 [.f (.lit (.bool false))]).flatten) [])])
   (.seq (.reg [w 5 (.al ((List.replicate 64 [.f (.lit (.int .i64 0))]).flatten) [])])
   (.seq (.reg [w 6 (.nl .rw 1)])
   (.seq (.reg [q (.mv (.s 1)), q (.bsl .rw 1 [[.f (.lit (.int .i64 0))]] [(0, (.l 0))]), w 7 (.mv (.l 0))])
   (.seq (.reg [q (.mv (.s 1)), q (.iaa 64 1 (.s 4) (.l 0)), e (.st 1 (.l 0) (bo true))])
   (.seq (.label 0)
   (.seq (.reg [q (.mv (.s 7)), q (.mv (.s 7)), q (.len (.l 0)), q (.bin .sub (.l 0) (i 1)), q (.ia 1 (.l 3) (.l 0)), q (.ld none (.l 0)), w 8 (.mv (.l 0))])
   (.seq (.block 0 graph_Order_l0)
   (.seq (.reg [q (.mv (.s 6)), q (.mv (.s 8)), q (.bsl .fz 1 [[.f (.lit (.int .i64 0))]] [(0, (.l 0))]), q (.app 1 (.l 2) (.l 0)), w 6 (.mv (.l 0))])
   (.seq (.reg [q (.mv (.s 7)), q (.mv (.s 7)), q (.len (.l 0)), q (.bin .sub (.l 0) (i 1)), q (.slc 1 (.l 3) none (some (.l 0)) none), w 7 (.mv (.l 0))])
   (.seq (.seq (.reg [q (.mv (.s 7)), q (.len (.l 0)), w 13 (.bin .gtr (.l 0) (i 0))])
   (.cond (.s 13) (.goto 0 [f,f,t,f,t,t,t,t,f,f,f,f,f,f] 5)
   .skip))
   (.seq (.reg [q (.mv (.s 6)), q (.call .op (.c (.one (.fn F.slices_Reverse_int [] []))) [(.l 0)])])
   (.seq (.reg [q (.mv (.s 6)), w 3 (.mv (.l 0))])
   (.ret [f,f,f,t,f,f,f,f,f,f,f,f,f,f])))))))))))))))
def graph_Order_r1 : Go.A.Code := (findLabel graph_Order_s1 0).getD .skip
theorem graph_Order_r1_eq : findLabel graph_Order_s1 0 = some graph_Order_r1 := rfl
/-- lockstep/graph.Order -/
def a_graph_Order : Fun := { np := 2, nslots := 14, keep := 0, raw := false, results := [(3, none)], body :=
   (.seq (.reg [w 2 (.box 2 (.s 0)), w 3 (.mv (.c (.one (.f (.sl [])))))])
   (.scope graph_Order_s1)) }
def k_graph_Order : List Go.Tmp := [0, 1, 2, 4, 5, 6, 7, 8, 9, 10, 24, 44, 63, 81]
theorem c_graph_Order : chkFun Go.Proofs.Tryz.prog (drawsOf Go.Proofs.Tryz.prog) k_graph_Order Go.Proofs.Tryz.f170 a_graph_Order = true := by kernel_rfl

def slices_Repeat_int_b0 : Go.A.Code :=
   (.seq (.seq (.reg [q (.mv (.s 6)), q (.mv (.s 5)), q (.len (.l 0)), w 9 (.bin .lss (.l 2) (.l 0))])
   (.cond (.s 9) .skip
   (.exit 0 [f,f,f,f,f,t,f,f,f,f] 1)))
   (.block 1 (.reg [q (.mv (.s 6)), q (.mv (.s 5)), q (.mv (.s 6)), q (.slc 1 (.l 1) (some (.l 0)) none none), q (.mv (.s 5)), q (.mv (.s 6)), q (.slc 1 (.l 1) none (some (.l 0)) none), q (.cpy 1 (.l 3) (.l 0)), q (.bin .add (.l 7) (.l 0)), w 6 (.mv (.l 0))])))
def slices_Repeat_int_l0 : Go.A.Code := .loop [f,f,f,f,f,t,t,f,f,f] 1 slices_Repeat_int_b0
theorem slices_Repeat_int_l0_eq (T : Nat → Option Entry) (s : St) : exec T slices_Repeat_int_l0 s = (exec T slices_Repeat_int_b0 s).bind (loopK (exec T slices_Repeat_int_l0) [f,f,f,f,f,t,t,f,f,f] 1) := exec_loop T s _ _ _
/-- slices.Repeat[[]int,int] -/
def a_slices_Repeat_int : Fun := { np := 2, nslots := 10, keep := 1, raw := true, results := [(2, none)], body :=
   (.seq (.reg [w 2 (.mv (.c (.one (.f (.sl [])))))])
   (.seq (.seq (.reg [q (.mv (.s 1)), w 7 (.bin .lss (.l 0) (i 0))])
   (.cond (.s 7) (.reg [q (.no ""), e (.no "")])
   .skip))
   (.seq (.reg [q (.mv (.s 0)), q (.len (.l 0)), q (.conv .u64 (.l 0)), q (.mv (.s 1)), q (.conv .u64 (.l 0)), q (.call .cl (.c (.one (.fn F.bits_Mul [] []))) [(.l 2), (.l 0)]), q (.mv (.l 0)), q (.ext (.l 0) 0), q (.ext (.l 1) 1), w 3 (.mv (.l 1)), w 4 (.mv (.l 1))])
   (.seq (.seq (.reg [q (.mv (.s 3)), q (.bin .gtr (.l 0) (ik .u64 0)), q (.mv (.l 0)), ⟨.loc, .mv (.s 4), (some (.l 0, false))⟩, ⟨.loc, .bin .gtr (.l 0) (ik .u64 9223372036854775807), (some (.l 1, false))⟩, w 8 (.pick (.l 2) (bo true) (.l 0))])
   (.cond (.s 8) (.reg [q (.no ""), e (.no "")])
   .skip))
   (.seq (.reg [q (.mv (.s 4)), q (.conv .i64 (.l 0)), q (.mks [.f (.lit (.int .i64 0))] none (.l 0)), w 5 (.mv (.l 0))])
   (.seq (.reg [q (.mv (.s 5)), q (.mv (.s 0)), q (.cpy 1 (.l 1) (.l 0)), w 6 (.mv (.l 0))])
   (.seq (.block 0 slices_Repeat_int_l0)
   (.seq (.reg [q (.mv (.s 5)), w 2 (.mv (.l 0))])
   (.ret [f,f,t,f,f,f,f,f,f,f]))))))))) }
def k_slices_Repeat_int : List Go.Tmp := [0, 1, 4, 5, 6, 7, 8, 10, 26, 37]
theorem c_slices_Repeat_int : chkFun Go.Proofs.Tryz.prog (drawsOf Go.Proofs.Tryz.prog) k_slices_Repeat_int Go.Proofs.Tryz.f171 a_slices_Repeat_int = true := by kernel_rfl

def dom_meet_b0 : Go.A.Code :=
   (.seq (.seq (.reg [q (.mv (.s 1)), q (.mv (.s 2)), q (.ia 1 (.l 1) (.l 0)), q (.ld none (.l 0)), q (.mv (.s 1)), q (.mv (.s 3)), q (.ia 1 (.l 1) (.l 0)), q (.ld none (.l 0)), w 6 (.bin .gtr (.l 4) (.l 0))])
   (.cond (.s 6) .skip
   (.exit 2 [t,t,t,t,f,f,f,f] 0)))
   (.block 3 (.reg [q (.mv (.s 0)), q (.mv (.s 2)), q (.ia 1 (.l 1) (.l 0)), q (.ld none (.l 0)), w 2 (.mv (.l 0))])))
def dom_meet_l0 : Go.A.Code := .loop [t,t,t,t,f,f,f,f] 0 dom_meet_b0
theorem dom_meet_l0_eq (T : Nat → Option Entry) (s : St) : exec T dom_meet_l0 s = (exec T dom_meet_b0 s).bind (loopK (exec T dom_meet_l0) [t,t,t,t,f,f,f,f] 0) := exec_loop T s _ _ _
def dom_meet_b1 : Go.A.Code :=
   (.seq (.seq (.reg [q (.mv (.s 1)), q (.mv (.s 3)), q (.ia 1 (.l 1) (.l 0)), q (.ld none (.l 0)), q (.mv (.s 1)), q (.mv (.s 2)), q (.ia 1 (.l 1) (.l 0)), q (.ld none (.l 0)), w 7 (.bin .gtr (.l 4) (.l 0))])
   (.cond (.s 7) .skip
   (.exit 4 [t,t,t,t,f,f,f,f] 0)))
   (.block 5 (.reg [q (.mv (.s 0)), q (.mv (.s 3)), q (.ia 1 (.l 1) (.l 0)), q (.ld none (.l 0)), w 3 (.mv (.l 0))])))
def dom_meet_l1 : Go.A.Code := .loop [t,t,t,t,f,f,f,f] 0 dom_meet_b1
theorem dom_meet_l1_eq (T : Nat → Option Entry) (s : St) : exec T dom_meet_l1 s = (exec T dom_meet_b1 s).bind (loopK (exec T dom_meet_l1) [t,t,t,t,f,f,f,f] 0) := exec_loop T s _ _ _
def dom_meet_b2 : Go.A.Code :=
   (.seq (.seq (.reg [q (.mv (.s 2)), q (.mv (.s 3)), w 5 (.bin .neq (.l 1) (.l 0))])
   (.cond (.s 5) .skip
   (.exit 0 [f,f,t,f,f,f,f,f] 0)))
   (.block 1 (.seq (.block 2 dom_meet_l0)
   (.block 4 dom_meet_l1))))
def dom_meet_l2 : Go.A.Code := .loop [t,t,t,t,f,f,f,f] 0 dom_meet_b2
theorem dom_meet_l2_eq (T : Nat → Option Entry) (s : St) : exec T dom_meet_l2 s = (exec T dom_meet_b2 s).bind (loopK (exec T dom_meet_l2) [t,t,t,t,f,f,f,f] 0) := exec_loop T s _ _ _
/-- lockstep/dom.meet -/
def a_dom_meet : Fun := { np := 4, nslots := 8, keep := 0, raw := false, results := [(4, none)], body :=
   (.seq (.reg [w 4 (.mv (i 0))])
   (.seq (.block 0 dom_meet_l2)
   (.seq (.reg [q (.mv (.s 2)), w 4 (.mv (.l 0))])
   (.ret [f,f,f,f,t,f,f,f])))) }
def k_dom_meet : List Go.Tmp := [0, 1, 2, 3, 8, 11, 20, 33]
theorem c_dom_meet : chkFun Go.Proofs.Tryz.prog (drawsOf Go.Proofs.Tryz.prog) k_dom_meet Go.Proofs.Tryz.f172 a_dom_meet = true := by kernel_rfl

/-- lockstep/dom.in -/
def a_dom_in : Fun := { np := 2, nslots := 4, keep := 0, raw := false, results := [(3, none)], body :=
   (.seq (.reg [w 2 (.box 1 (.s 0)), w 3 (.mv (bo false))])
   (.seq (.reg [q (.ld none (.s 2)), q (.call .cl (.c (.one (.fn F.dom_right [] []))) [(.l 0)]), q (.mv (.l 0)), ⟨.loc, .mv (.s 1), (some (.l 0, true))⟩, ⟨.loc, .mkf F.dom_in_1 [] [(.s 2)], (some (.l 1, true))⟩, ⟨.loc, .call .op (.c (.one (.fn F.slices_ContainsFunc_int [] []))) [(.l 1), (.l 0)], (some (.l 2, true))⟩, ⟨.loc, .un .not (.l 0), (some (.l 3, true))⟩, q (.pick (.l 4) (.l 0) (bo false)), w 3 (.mv (.l 0))])
   (.ret [f,f,f,t]))) }
def k_dom_in : List Go.Tmp := [0, 1, 2, 4]
theorem c_dom_in : chkFun Go.Proofs.Tryz.prog (drawsOf Go.Proofs.Tryz.prog) k_dom_in Go.Proofs.Tryz.f173 a_dom_in = true := by kernel_rfl

def dom_Meet_b0 : Go.A.Code :=
   (.seq (.seq (.reg [q (.mv (.s 1)), q (.mv (.s 2)), w 5 (.bin .neq (.l 1) (.l 0))])
   (.cond (.s 5) .skip
   (.exit 0 [f,t,f,f,f,f,f] 0)))
   (.block 1 (.seq (.reg [q (.mv (.s 0)), q (.mv (.s 1)), q (.call .cl (.c (.one (.fn F.dom_depth [] []))) [(.l 1), (.l 0)]), q (.mv (.s 0)), q (.mv (.s 2)), q (.call .cl (.c (.one (.fn F.dom_depth [] []))) [(.l 1), (.l 0)]), w 6 (.bin .geq (.l 3) (.l 0))])
   (.cond (.s 6) (.reg [q (.mv (.s 0)), q (.mv (.s 1)), q (.ia 1 (.l 1) (.l 0)), q (.ld none (.l 0)), w 1 (.mv (.l 0))])
   (.reg [q (.mv (.s 0)), q (.mv (.s 2)), q (.ia 1 (.l 1) (.l 0)), q (.ld none (.l 0)), w 2 (.mv (.l 0))])))))
def dom_Meet_l0 : Go.A.Code := .loop [t,t,t,f,f,f,f] 0 dom_Meet_b0
theorem dom_Meet_l0_eq (T : Nat → Option Entry) (s : St) : exec T dom_Meet_l0 s = (exec T dom_Meet_b0 s).bind (loopK (exec T dom_Meet_l0) [t,t,t,f,f,f,f] 0) := exec_loop T s _ _ _
/-- lockstep/dom.Meet -/
def a_dom_Meet : Fun := { np := 3, nslots := 7, keep := 0, raw := false, results := [(3, none)], body :=
   (.seq (.reg [w 3 (.mv (i 0))])
   (.seq (.seq (.reg [q (.mv (.s 0)), q (.mv (.s 1)), q (.mv (.s 2)), q (.bsl .fz 1 [[.f (.lit (.int .i64 0))], [.f (.lit (.int .i64 0))]] [(0, (.l 1)), (1, (.l 0))]), q (.call .cl (.c (.one (.fn F.dom_in [] []))) [(.l 3), (.l 0)]), w 4 (.un .not (.l 0))])
   (.cond (.s 4) (.seq (.reg [w 3 (.mv (i (-2)))])
   (.ret [f,f,f,t,f,f,f]))
   .skip))
   (.seq (.block 0 dom_Meet_l0)
   (.seq (.reg [q (.mv (.s 1)), w 3 (.mv (.l 0))])
   (.ret [f,f,f,t,f,f,f]))))) }
def k_dom_Meet : List Go.Tmp := [0, 1, 2, 6, 12, 15, 22]
theorem c_dom_Meet : chkFun Go.Proofs.Tryz.prog (drawsOf Go.Proofs.Tryz.prog) k_dom_Meet Go.Proofs.Tryz.f174 a_dom_Meet = true := by kernel_rfl

def slices_IndexFunc_Phi_b0 : Go.A.Code :=
   (.seq (.reg [w 6 (.bin .lss (.s 5) (.s 4))])
   (.seq (.cond (.s 6) .skip
   (.exit 0 [f,f,f,f,f,f,f,f] 0))
   (.seq (.block 1 (.seq (.reg [q (.mv (.s 5)), w 3 (.mv (.l 0))])
   (.seq (.reg [q (.mv (.s 1)), q (.mv (.s 0)), q (.mv (.s 3)), q (.ia 4 (.l 1) (.l 0)), q (.ld (some 4) (.l 0)), w 7 (.call .op (.l 4) [(.l 0)])])
   (.cond (.s 7) (.seq (.reg [q (.mv (.s 3)), w 2 (.mv (.l 0))])
   (.ret [f,f,t,f,f,f,f,f]))
   .skip))))
   (.reg [q (.bin .add (.s 5) (i 1)), w 5 (.mv (.l 0))]))))
def slices_IndexFunc_Phi_l0 : Go.A.Code := .loop [t,t,f,f,t,t,f,f] 0 slices_IndexFunc_Phi_b0
theorem slices_IndexFunc_Phi_l0_eq (T : Nat → Option Entry) (s : St) : exec T slices_IndexFunc_Phi_l0 s = (exec T slices_IndexFunc_Phi_b0 s).bind (loopK (exec T slices_IndexFunc_Phi_l0) [t,t,f,f,t,t,f,f] 0) := exec_loop T s _ _ _
/-- slices.IndexFunc[[]lockstep/api.Phi,lockstep/api.Phi] -/
def a_slices_IndexFunc_Phi : Fun := { np := 2, nslots := 8, keep := 0, raw := false, results := [(2, none)], body :=
   (.seq (.reg [w 2 (.mv (i 0))])
   (.seq (.seq (.reg [q (.mv (.s 0)), w 4 (.len (.l 0)), w 5 (.mv (i 0))])
   (.block 0 slices_IndexFunc_Phi_l0))
   (.seq (.reg [w 2 (.mv (i (-1)))])
   (.ret [f,f,t,f,f,f,f,f])))) }
def k_slices_IndexFunc_Phi : List Go.Tmp := [0, 1, 4, 5, 7, 8, 9, 16]
theorem c_slices_IndexFunc_Phi : chkFun Go.Proofs.Tryz.prog (drawsOf Go.Proofs.Tryz.prog) k_slices_IndexFunc_Phi Go.Proofs.Tryz.f175 a_slices_IndexFunc_Phi = true := by kernel_rfl

def slices_IndexFunc_Op_b0 : Go.A.Code :=
   (.seq (.reg [w 6 (.bin .lss (.s 5) (.s 4))])
   (.seq (.cond (.s 6) .skip
   (.exit 0 [f,f,f,f,f,f,f,f] 0))
   (.seq (.block 1 (.seq (.reg [q (.mv (.s 5)), w 3 (.mv (.l 0))])
   (.seq (.reg [q (.mv (.s 1)), q (.mv (.s 0)), q (.mv (.s 3)), q (.ia 6 (.l 1) (.l 0)), q (.ld (some 6) (.l 0)), w 7 (.call .op (.l 4) [(.l 0)])])
   (.cond (.s 7) (.seq (.reg [q (.mv (.s 3)), w 2 (.mv (.l 0))])
   (.ret [f,f,t,f,f,f,f,f]))
   .skip))))
   (.reg [q (.bin .add (.s 5) (i 1)), w 5 (.mv (.l 0))]))))
def slices_IndexFunc_Op_l0 : Go.A.Code := .loop [t,t,f,f,t,t,f,f] 0 slices_IndexFunc_Op_b0
theorem slices_IndexFunc_Op_l0_eq (T : Nat → Option Entry) (s : St) : exec T slices_IndexFunc_Op_l0 s = (exec T slices_IndexFunc_Op_b0 s).bind (loopK (exec T slices_IndexFunc_Op_l0) [t,t,f,f,t,t,f,f] 0) := exec_loop T s _ _ _
/-- slices.IndexFunc[[]lockstep/api.Op,lockstep/api.Op] -/
def a_slices_IndexFunc_Op : Fun := { np := 2, nslots := 8, keep := 0, raw := false, results := [(2, none)], body :=
   (.seq (.reg [w 2 (.mv (i 0))])
   (.seq (.seq (.reg [q (.mv (.s 0)), w 4 (.len (.l 0)), w 5 (.mv (i 0))])
   (.block 0 slices_IndexFunc_Op_l0))
   (.seq (.reg [w 2 (.mv (i (-1)))])
   (.ret [f,f,t,f,f,f,f,f])))) }
def k_slices_IndexFunc_Op : List Go.Tmp := [0, 1, 4, 5, 7, 8, 9, 16]
theorem c_slices_IndexFunc_Op : chkFun Go.Proofs.Tryz.prog (drawsOf Go.Proofs.Tryz.prog) k_slices_IndexFunc_Op Go.Proofs.Tryz.f176 a_slices_IndexFunc_Op = true := by kernel_rfl

/-- lockstep/kind.May -/
def a_kind_May : Fun := { np := 1, nslots := 8, keep := 0, raw := false, results := [(2, none)], body :=
   (.seq (.reg [w 1 (.box 6 (.s 0)), w 2 (.mv (bo false))])
   (.seq (.seq (.reg [q (.fa 1 (.s 1)), q (.ld none (.l 0)), q (.fa 2 (.s 1)), q (.ld none (.l 0)), q (.call .cl (.c (.one (.fn F.kind_Shape [] []))) [(.l 2), (.l 0)]), w 6 (.un .not (.l 0))])
   (.cond (.s 6) (.seq (.reg [w 2 (.mv (bo false))])
   (.ret [f,f,t,f,f,f,f,f]))
   .skip))
   (.seq (.reg [q (.ld (some 6) (.s 1)), q (.call .cl (.c (.one (.fn F.kind_takes [] []))) [(.l 0)]), q (.mv (.l 0)), q (.ext (.l 0) 0), q (.ext (.l 1) 1), w 3 (.mv (.l 1)), w 4 (.mv (.l 1))])
   (.seq (.reg [q (.fa 3 (.s 1)), q (.ld none (.l 0)), q (.call .cl (.c (.one (.fn F.kind_value [] []))) [(.l 0)]), w 5 (.mv (.l 0))])
   (.seq (.seq (.reg [q (.fa 0 (.s 1)), q (.ld none (.l 0)), w 7 (.call .cl (.c (.one (.fn F.kind_stores [] []))) [(.l 0)])])
   (.cond (.s 7) (.reg [q (.fa 3 (.s 1)), q (.ld none (.l 0)), q (.bin .eql (.l 0) (i 0)), w 5 (.mv (.l 0))])
   .skip))
   (.seq (.reg [q (.mv (.s 4)), q (.mv (.l 0)), ⟨.loc, .mv (.s 5), (some (.l 0, true))⟩, q (.pick (.l 1) (.l 0) (bo false)), q (.mv (.l 0)), ⟨.loc, .mv (.s 3), (some (.l 0, true))⟩, ⟨.loc, .len (.l 0), (some (.l 1, true))⟩, ⟨.loc, .fa 4 (.s 1), (some (.l 2, true))⟩, ⟨.loc, .ld none (.l 0), (some (.l 3, true))⟩, ⟨.loc, .len (.l 0), (some (.l 4, true))⟩, ⟨.loc, .bin .eql (.l 3) (.l 0), (some (.l 5, true))⟩, q (.pick (.l 6) (.l 0) (bo false)), q (.mv (.l 0)), ⟨.loc, .fa 4 (.s 1), (some (.l 0, true))⟩, ⟨.loc, .ld none (.l 0), (some (.l 1, true))⟩, ⟨.loc, .call .op (.c (.one (.fn F.slices_ContainsFunc_int [] []))) [(.l 0), (.c (.one (.fn F.kind_May_1 [] [])))], (some (.l 2, true))⟩, ⟨.loc, .un .not (.l 0), (some (.l 3, true))⟩, q (.pick (.l 4) (.l 0) (bo false)), w 2 (.mv (.l 0))])
   (.ret [f,f,t,f,f,f,f,f]))))))) }
def k_kind_May : List Go.Tmp := [0, 1, 2, 3, 4, 5, 11, 22]
theorem c_kind_May : chkFun Go.Proofs.Tryz.prog (drawsOf Go.Proofs.Tryz.prog) k_kind_May Go.Proofs.Tryz.f177 a_kind_May = true := by kernel_rfl

/-- lockstep/kind.stores -/
def a_kind_stores : Fun := { np := 1, nslots := 2, keep := 0, raw := false, results := [(1, none)], body :=
   (.seq (.reg [w 1 (.mv (bo false))])
   (.seq (.reg [q (.mv (.s 0)), q (.bin .eql (.l 0) (i 17)), q (.mv (.l 0)), ⟨.loc, .mv (.s 0), (some (.l 0, false))⟩, ⟨.loc, .bin .eql (.l 0) (i 19), (some (.l 1, false))⟩, q (.pick (.l 2) (bo true) (.l 0)), w 1 (.mv (.l 0))])
   (.ret [f,t]))) }
def k_kind_stores : List Go.Tmp := [0, 2]
theorem c_kind_stores : chkFun Go.Proofs.Tryz.prog (drawsOf Go.Proofs.Tryz.prog) k_kind_stores Go.Proofs.Tryz.f178 a_kind_stores = true := by kernel_rfl

/-- lockstep/kind.Takes -/
def a_kind_Takes : Fun := { np := 1, nslots := 5, keep := 0, raw := false, results := [(2, none)], body :=
   (.seq (.reg [w 1 (.box 6 (.s 0)), w 2 (.mv (.c (.one (.f (.sl [])))))])
   (.seq (.seq (.reg [q (.ld (some 6) (.s 1)), q (.call .cl (.c (.one (.fn F.kind_May [] []))) [(.l 0)]), w 4 (.un .not (.l 0))])
   (.cond (.s 4) (.seq (.reg [w 2 (.mv (.c (.one (.f (.sl [])))))])
   (.ret [f,f,t,f,f]))
   .skip))
   (.seq (.reg [q (.ld (some 6) (.s 1)), q (.call .cl (.c (.one (.fn F.kind_takes [] []))) [(.l 0)]), q (.mv (.l 0)), q (.ext (.l 0) 0), q (.ext (.l 1) 1), w 3 (.mv (.l 1)), q (.mv (.l 1))])
   (.seq (.reg [q (.mv (.s 3)), w 2 (.mv (.l 0))])
   (.ret [f,f,t,f,f]))))) }
def k_kind_Takes : List Go.Tmp := [0, 1, 2, 3, 7]
theorem c_kind_Takes : chkFun Go.Proofs.Tryz.prog (drawsOf Go.Proofs.Tryz.prog) k_kind_Takes Go.Proofs.Tryz.f179 a_kind_Takes = true := by kernel_rfl

def eval_same_b0 : Go.A.Code :=
   (.seq (.reg [w 7 (.bin .lss (.s 6) (.s 5))])
   (.seq (.cond (.s 7) .skip
   (.exit 0 [f,f,f,t,f,f,f,f] 1))
   (.seq (.block 1 (.seq (.reg [q (.mv (.s 6)), w 4 (.mv (.l 0))])
   (.reg [q (.mv (.s 3)), q (.mv (.s 4)), q (.mv (.s 0)), q (.ia 1 (.l 2) (.l 1)), e (.st 1 (.l 0) (.l 1))])))
   (.reg [q (.bin .add (.s 6) (i 1)), w 6 (.mv (.l 0))]))))
def eval_same_l0 : Go.A.Code := .loop [t,f,f,t,f,t,t,f] 1 eval_same_b0
theorem eval_same_l0_eq (T : Nat → Option Entry) (s : St) : exec T eval_same_l0 s = (exec T eval_same_b0 s).bind (loopK (exec T eval_same_l0) [t,f,f,t,f,t,t,f] 1) := exec_loop T s _ _ _
/-- lockstep/eval.same -/
def a_eval_same : Fun := { np := 2, nslots := 8, keep := 0, raw := false, results := [(2, none)], body :=
   (.seq (.reg [w 2 (.mv (.c (.one (.f (.sl [])))))])
   (.seq (.reg [q (.mv (.s 1)), q (.mks [.f (.lit (.int .u64 0))] none (.l 0)), w 3 (.mv (.l 0))])
   (.seq (.seq (.reg [q (.mv (.s 3)), w 5 (.len (.l 0)), w 6 (.mv (i 0))])
   (.block 0 eval_same_l0))
   (.seq (.reg [q (.mv (.s 3)), w 2 (.mv (.l 0))])
   (.ret [f,f,t,f,f,f,f,f]))))) }
def k_eval_same : List Go.Tmp := [0, 1, 4, 5, 6, 10, 11, 12]
theorem c_eval_same : chkFun Go.Proofs.Tryz.prog (drawsOf Go.Proofs.Tryz.prog) k_eval_same Go.Proofs.Tryz.f180 a_eval_same = true := by kernel_rfl

def mem_Mem_Read_b0 : Go.A.Code :=
   (.seq (.reg [w 21 (.bin .lss (.s 20) (.s 19))])
   (.seq (.cond (.s 21) .skip
   (.exit 2 [t,t,f,f,f,f,t,t,f,t,f,f,f,f,t,t,f,f,f,f,f,f] 1))
   (.seq (.block 3 (.seq (.reg [q (.mv (.s 20)), q (.ia 1 (.s 18) (.s 20)), q (.ld none (.l 0)), w 11 (.mv (.l 2)), w 12 (.mv (.l 1))])
   (.seq (.reg [q (.mv (.s 9)), q (.mv (.s 12)), q (.conv .u64 (.l 0)), q (.mv (.s 11)), q (.bin .mul (i 8) (.l 0)), q (.bin .shl (.l 2) (.l 0)), q (.bin .or (.l 5) (.l 0)), w 9 (.mv (.l 0))])
   (.reg [q (.mv (.s 0)), q (.mv (.s 0)), q (.nil (.l 0)), q (.fa 1 (.l 0)), q (.ld none (.l 0)), q (.mv (.s 10)), q (.mv (.s 11)), q (.conv .u64 (.l 0)), q (.bin .add (.l 2) (.l 0)), q (.mv (.s 12)), q (.bld [.f (.lit (.bool false)), .f (.lit (.int .u64 0)), .f (.lit (.int .u8 0))] [(1, 1, (.l 1)), (2, 1, (.l 0))] []), q (.bsl .fz 3 [[.f (.lit (.bool false)), .f (.lit (.int .u64 0)), .f (.lit (.int .u8 0))]] [(0, (.l 0))]), q (.app 3 (.l 7) (.l 0)), q (.nil (.l 12)), q (.fa 1 (.l 0)), e (.st 1 (.l 0) (.l 2))]))))
   (.reg [q (.bin .add (.s 20) (i 1)), w 20 (.mv (.l 0))]))))
def mem_Mem_Read_l0 : Go.A.Code := .loop [t,t,f,f,f,f,t,t,f,t,t,f,f,f,t,t,f,f,t,t,t,f] 1 mem_Mem_Read_b0
theorem mem_Mem_Read_l0_eq (T : Nat → Option Entry) (s : St) : exec T mem_Mem_Read_l0 s = (exec T mem_Mem_Read_b0 s).bind (loopK (exec T mem_Mem_Read_l0) [t,t,f,f,f,f,t,t,f,t,t,f,f,f,t,t,f,f,t,t,t,f] 1) := exec_loop T s _ _ _
def mem_Mem_Read_b1 : Go.A.Code :=
   (.seq (.reg [w 16 (.bin .lss (.s 15) (.s 14))])
   (.seq (.cond (.s 16) .skip
   (.exit 0 [f,f,f,f,f,f,t,f,f,f,f,f,f,f,f,f,f,f,f,f,f,f] 1))
   (.seq (.block 1 (.seq (.reg [q (.mv (.s 15)), w 8 (.mv (.l 0))])
   (.seq (.reg [w 9 (.mv (ik .u64 0))])
   (.seq (.reg [q (.mv (.s 1)), q (.mv (.s 8)), q (.mv (.s 7)), q (.bin .mul (.l 1) (.l 0)), q (.conv .u64 (.l 0)), q (.bin .add (.l 4) (.l 0)), w 10 (.mv (.l 0))])
   (.seq (.seq (.reg [q (.mv (.s 10)), q (.mv (.s 1)), q (.bin .lss (.l 1) (.l 0)), q (.mv (.l 0)), ⟨.loc, .mv (.s 0), (some (.l 0, false))⟩, ⟨.loc, .mv (.s 10), (some (.l 1, false))⟩, ⟨.loc, .mv (.s 7), (some (.l 2, false))⟩, ⟨.loc, .call .op (.c (.one (.fn F.mem_Mem_There [] []))) [(.l 2), (.l 1), (.l 0)], (some (.l 3, false))⟩, ⟨.loc, .un .not (.l 0), (some (.l 4, false))⟩, w 17 (.pick (.l 5) (bo true) (.l 0))])
   (.cond (.s 17) (.goto 0 [f,f,f,f,f,f,f,f,f,f,f,f,f,f,f,f,f,f,f,f,f,f] 0)
   .skip))
   (.seq (.seq (.reg [q (.mv (.s 0)), q (.nil (.l 0)), q (.fa 0 (.l 0)), q (.ld none (.l 0)), q (.mv (.s 10)), q (.mv (.s 10)), q (.mv (.s 7)), q (.conv .u64 (.l 0)), q (.bin .add (.l 2) (.l 0)), w 18 (.slc 1 (.l 5) (some (.l 4)) (some (.l 0)) none), w 19 (.len (.s 18)), w 20 (.mv (i 0))])
   (.block 2 mem_Mem_Read_l0))
   (.reg [q (.mv (.s 6)), q (.mv (.s 9)), q (.bsl .fz 1 [[.f (.lit (.int .u64 0))]] [(0, (.l 0))]), q (.app 1 (.l 2) (.l 0)), w 6 (.mv (.l 0))])))))))
   (.reg [q (.bin .add (.s 15) (i 1)), w 15 (.mv (.l 0))]))))
def mem_Mem_Read_l1 : Go.A.Code := .loop [t,t,f,f,f,f,t,t,f,f,f,f,f,f,t,t,f,f,f,f,f,f] 1 mem_Mem_Read_b1
theorem mem_Mem_Read_l1_eq (T : Nat → Option Entry) (s : St) : exec T mem_Mem_Read_l1 s = (exec T mem_Mem_Read_b1 s).bind (loopK (exec T mem_Mem_Read_l1) [t,t,f,f,f,f,t,t,f,f,f,f,f,f,t,t,f,f,f,f,f,f] 1) := exec_loop T s _ _ _
def mem_Mem_Read_b2 : Go.A.Code :=
   (.seq (.reg [w 21 (.bin .lss (.s 20) (.s 19))])
   (.seq (.cond (.s 21) .skip
   (.exit 2 [t,t,f,f,f,f,t,t,f,t,f,f,f,f,t,t,f,f,f,f,f,f] 1))
   (.seq (.block 3 (.seq (.reg [q (.mv (.s 20)), q (.ia 1 (.s 18) (.s 20)), q (.ld none (.l 0)), w 11 (.mv (.l 2)), w 12 (.mv (.l 1))])
   (.seq (.reg [q (.mv (.s 9)), q (.mv (.s 12)), q (.conv .u64 (.l 0)), q (.mv (.s 11)), q (.bin .mul (i 8) (.l 0)), q (.bin .shl (.l 2) (.l 0)), q (.bin .or (.l 5) (.l 0)), w 9 (.mv (.l 0))])
   (.reg [q (.mv (.s 0)), q (.mv (.s 0)), q (.nil (.l 0)), q (.fa 1 (.l 0)), q (.ld none (.l 0)), q (.mv (.s 10)), q (.mv (.s 11)), q (.conv .u64 (.l 0)), q (.bin .add (.l 2) (.l 0)), q (.mv (.s 12)), q (.bld [.f (.lit (.bool false)), .f (.lit (.int .u64 0)), .f (.lit (.int .u8 0))] [(1, 1, (.l 1)), (2, 1, (.l 0))] []), q (.bsl .fz 3 [[.f (.lit (.bool false)), .f (.lit (.int .u64 0)), .f (.lit (.int .u8 0))]] [(0, (.l 0))]), q (.app 3 (.l 7) (.l 0)), q (.nil (.l 12)), q (.fa 1 (.l 0)), e (.st 1 (.l 0) (.l 2))]))))
   (.reg [q (.bin .add (.s 20) (i 1)), w 20 (.mv (.l 0))]))))
def mem_Mem_Read_l2 : Go.A.Code := .loop [t,t,f,f,f,f,t,t,f,t,t,f,f,f,t,t,f,f,t,t,t,f] 1 mem_Mem_Read_b2
theorem mem_Mem_Read_l2_eq (T : Nat → Option Entry) (s : St) : exec T mem_Mem_Read_l2 s = (exec T mem_Mem_Read_b2 s).bind (loopK (exec T mem_Mem_Read_l2) [t,t,f,f,f,f,t,t,f,t,t,f,f,f,t,t,f,f,t,t,t,f] 1) := exec_loop T s _ _ _
def mem_Mem_Read_b3 : Go.A.Code :=
   (.seq (.reg [w 16 (.bin .lss (.s 15) (.s 14))])
   (.seq (.cond (.s 16) .skip
   (.exit 0 [f,f,f,f,f,f,t,f,f,f,f,f,f,f,f,f,f,f,f,f,f,f] 1))
   (.seq (.block 1 (.seq (.reg [q (.mv (.s 15)), w 8 (.mv (.l 0))])
   (.seq (.reg [w 9 (.mv (ik .u64 0))])
   (.seq (.reg [q (.mv (.s 1)), q (.mv (.s 8)), q (.mv (.s 7)), q (.bin .mul (.l 1) (.l 0)), q (.conv .u64 (.l 0)), q (.bin .add (.l 4) (.l 0)), w 10 (.mv (.l 0))])
   (.seq (.seq (.reg [q (.mv (.s 10)), q (.mv (.s 1)), q (.bin .lss (.l 1) (.l 0)), q (.mv (.l 0)), ⟨.loc, .mv (.s 0), (some (.l 0, false))⟩, ⟨.loc, .mv (.s 10), (some (.l 1, false))⟩, ⟨.loc, .mv (.s 7), (some (.l 2, false))⟩, ⟨.loc, .call .op (.c (.one (.fn F.mem_Mem_There [] []))) [(.l 2), (.l 1), (.l 0)], (some (.l 3, false))⟩, ⟨.loc, .un .not (.l 0), (some (.l 4, false))⟩, w 17 (.pick (.l 5) (bo true) (.l 0))])
   (.cond (.s 17) (.goto 0 [f,f,f,f,f,f,f,f,f,f,f,f,f,f,f,f,f,f,f,f,f,f] 1)
   .skip))
   (.seq (.seq (.reg [q (.mv (.s 0)), q (.nil (.l 0)), q (.fa 0 (.l 0)), q (.ld none (.l 0)), q (.mv (.s 10)), q (.mv (.s 10)), q (.mv (.s 7)), q (.conv .u64 (.l 0)), q (.bin .add (.l 2) (.l 0)), w 18 (.slc 1 (.l 5) (some (.l 4)) (some (.l 0)) none), w 19 (.len (.s 18)), w 20 (.mv (i 0))])
   (.block 2 mem_Mem_Read_l2))
   (.reg [q (.mv (.s 6)), q (.mv (.s 9)), q (.bsl .fz 1 [[.f (.lit (.int .u64 0))]] [(0, (.l 0))]), q (.app 1 (.l 2) (.l 0)), w 6 (.mv (.l 0))])))))))
   (.reg [q (.bin .add (.s 15) (i 1)), w 15 (.mv (.l 0))]))))
def mem_Mem_Read_l3 : Go.A.Code := .loop [t,t,f,f,f,f,t,t,f,f,f,f,f,f,t,t,f,f,f,f,f,f] 1 mem_Mem_Read_b3
theorem mem_Mem_Read_l3_eq (T : Nat → Option Entry) (s : St) : exec T mem_Mem_Read_l3 s = (exec T mem_Mem_Read_b3 s).bind (loopK (exec T mem_Mem_Read_l3) [t,t,f,f,f,f,t,t,f,f,f,f,f,f,t,t,f,f,f,f,f,f] 1) := exec_loop T s _ _ _
def mem_Mem_Read_s4 : Go.A.Code :=
   (.seq (.seq (.reg [q (.mv (.s 2)), q (.mv (.s 3)), q (.call .cl (.c (.one (.fn F.mem_may [] []))) [(.l 1), (.l 0)]), w 13 (.un .not (.l 0))])
   (.cond (.s 13) (.seq (.reg [w 4 (.mv (.c (.one (.f (.sl []))))), w 5 (.mv (i 1))])
   (.ret [f,f,f,f,t,t,f,f,f,f,f,f,f,f,f,f,f,f,f,f,f,f]))
   .skip))
   (.seq (.reg [w 6 (.nl .tk 1)])
   (.seq (.reg [q (.mv (.s 2)), q (.bin .quo (.l 0) (i 8)), w 7 (.mv (.l 0))])
   (.seq (.seq (.reg [w 14 (.mv (.s 3)), w 15 (.mv (i 0))])
   (.block 0 mem_Mem_Read_l3))
   (.seq (.seq (.reg [q (.mv (.s 6)), w 4 (.mv (.l 0)), w 5 (.mv (i 0))])
   (.ret [f,f,f,f,t,t,f,f,f,f,f,f,f,f,f,f,f,f,f,f,f,f]))
   (.seq (.label 0)
   (.seq (.reg [w 4 (.mv (.c (.one (.f (.sl []))))), w 5 (.mv (i 8))])
   (.ret [f,f,f,f,t,t,f,f,f,f,f,f,f,f,f,f,f,f,f,f,f,f]))))))))
def mem_Mem_Read_r4 : Go.A.Code := (findLabel mem_Mem_Read_s4 0).getD .skip
theorem mem_Mem_Read_r4_eq : findLabel mem_Mem_Read_s4 0 = some mem_Mem_Read_r4 := rfl
/-- (*lockstep/mem.Mem).Read -/
def a_mem_Mem_Read : Fun := { np := 4, nslots := 22, keep := 0, raw := false, results := [(4, none), (5, none)], body :=
   (.seq (.reg [w 4 (.mv (.c (.one (.f (.sl []))))), w 5 (.mv (i 0))])
   (.scope mem_Mem_Read_s4)) }
def k_mem_Mem_Read : List Go.Tmp := [0, 1, 2, 3, 8, 9, 10, 11, 12, 13, 14, 15, 16, 20, 23, 24, 25, 42, 52, 53, 54, 55]
theorem c_mem_Mem_Read : chkFun Go.Proofs.Tryz.prog (drawsOf Go.Proofs.Tryz.prog) k_mem_Mem_Read Go.Proofs.Tryz.f181 a_mem_Mem_Read = true := by kernel_rfl

def mem_Mem_Write_b0 : Go.A.Code :=
   (.seq (.reg [w 19 (.bin .lss (.s 18) (.s 17))])
   (.seq (.cond (.s 19) .skip
   (.exit 2 [t,t,f,f,f,t,f,f,f,f,f,f,t,t,t,f,f,f,f,f] 0))
   (.seq (.block 3 (.seq (.reg [q (.mv (.s 18)), w 9 (.mv (.l 0))])
   (.seq (.reg [q (.mv (.s 7)), q (.mv (.s 9)), q (.bin .mul (i 8) (.l 0)), q (.bin .shr (.l 2) (.l 0)), q (.conv .u8 (.l 0)), w 10 (.mv (.l 0))])
   (.seq (.reg [q (.mv (.s 0)), q (.nil (.l 0)), q (.fa 0 (.l 0)), q (.ld none (.l 0)), q (.mv (.s 8)), q (.mv (.s 9)), q (.conv .u64 (.l 0)), q (.bin .add (.l 2) (.l 0)), q (.mv (.s 10)), q (.ia 1 (.l 5) (.l 1)), e (.st 1 (.l 0) (.l 1))])
   (.reg [q (.mv (.s 0)), q (.mv (.s 0)), q (.nil (.l 0)), q (.fa 1 (.l 0)), q (.ld none (.l 0)), q (.mv (.s 8)), q (.mv (.s 9)), q (.conv .u64 (.l 0)), q (.bin .add (.l 2) (.l 0)), q (.mv (.s 10)), q (.bld [.f (.lit (.bool false)), .f (.lit (.int .u64 0)), .f (.lit (.int .u8 0))] [(0, 1, (bo true)), (1, 1, (.l 1)), (2, 1, (.l 0))] []), q (.bsl .fz 3 [[.f (.lit (.bool false)), .f (.lit (.int .u64 0)), .f (.lit (.int .u8 0))]] [(0, (.l 0))]), q (.app 3 (.l 7) (.l 0)), q (.nil (.l 12)), q (.fa 1 (.l 0)), e (.st 1 (.l 0) (.l 2))])))))
   (.reg [q (.bin .add (.s 18) (i 1)), w 18 (.mv (.l 0))]))))
def mem_Mem_Write_l0 : Go.A.Code := .loop [t,t,f,f,f,t,f,t,t,f,f,f,t,t,t,f,f,t,t,f] 0 mem_Mem_Write_b0
theorem mem_Mem_Write_l0_eq (T : Nat → Option Entry) (s : St) : exec T mem_Mem_Write_l0 s = (exec T mem_Mem_Write_b0 s).bind (loopK (exec T mem_Mem_Write_l0) [t,t,f,f,f,t,f,t,t,f,f,f,t,t,t,f,f,t,t,f] 0) := exec_loop T s _ _ _
def mem_Mem_Write_b1 : Go.A.Code :=
   (.seq (.reg [w 15 (.bin .lss (.s 14) (.s 13))])
   (.seq (.cond (.s 15) .skip
   (.exit 0 [f,f,f,f,f,f,f,f,f,f,f,f,f,f,f,f,f,f,f,f] 0))
   (.seq (.block 1 (.seq (.reg [q (.mv (.s 14)), q (.ia 1 (.s 12) (.s 14)), q (.ld none (.l 0)), w 6 (.mv (.l 2)), w 7 (.mv (.l 1))])
   (.seq (.reg [q (.mv (.s 1)), q (.mv (.s 6)), q (.mv (.s 5)), q (.bin .mul (.l 1) (.l 0)), q (.conv .u64 (.l 0)), q (.bin .add (.l 4) (.l 0)), w 8 (.mv (.l 0))])
   (.seq (.seq (.reg [q (.mv (.s 8)), q (.mv (.s 1)), q (.bin .lss (.l 1) (.l 0)), q (.mv (.l 0)), ⟨.loc, .mv (.s 0), (some (.l 0, false))⟩, ⟨.loc, .mv (.s 8), (some (.l 1, false))⟩, ⟨.loc, .mv (.s 5), (some (.l 2, false))⟩, ⟨.loc, .call .op (.c (.one (.fn F.mem_Mem_There [] []))) [(.l 2), (.l 1), (.l 0)], (some (.l 3, false))⟩, ⟨.loc, .un .not (.l 0), (some (.l 4, false))⟩, w 16 (.pick (.l 5) (bo true) (.l 0))])
   (.cond (.s 16) (.seq (.reg [w 4 (.mv (i 8))])
   (.ret [f,f,f,f,t,f,f,f,f,f,f,f,f,f,f,f,f,f,f,f]))
   .skip))
   (.seq (.reg [w 17 (.mv (.s 5)), w 18 (.mv (i 0))])
   (.block 2 mem_Mem_Write_l0))))))
   (.reg [q (.bin .add (.s 14) (i 1)), w 14 (.mv (.l 0))]))))
def mem_Mem_Write_l1 : Go.A.Code := .loop [t,t,f,f,f,t,f,f,f,f,f,f,t,t,t,f,f,f,f,f] 0 mem_Mem_Write_b1
theorem mem_Mem_Write_l1_eq (T : Nat → Option Entry) (s : St) : exec T mem_Mem_Write_l1 s = (exec T mem_Mem_Write_b1 s).bind (loopK (exec T mem_Mem_Write_l1) [t,t,f,f,f,t,f,f,f,f,f,f,t,t,t,f,f,f,f,f] 0) := exec_loop T s _ _ _
/-- (*lockstep/mem.Mem).Write -/
def a_mem_Mem_Write : Fun := { np := 4, nslots := 20, keep := 0, raw := false, results := [(4, none)], body :=
   (.seq (.reg [w 4 (.mv (i 0))])
   (.seq (.seq (.reg [q (.mv (.s 2)), q (.mv (.s 3)), q (.len (.l 0)), q (.call .cl (.c (.one (.fn F.mem_may [] []))) [(.l 2), (.l 0)]), w 11 (.un .not (.l 0))])
   (.cond (.s 11) (.seq (.reg [w 4 (.mv (i 1))])
   (.ret [f,f,f,f,t,f,f,f,f,f,f,f,f,f,f,f,f,f,f,f]))
   .skip))
   (.seq (.reg [q (.mv (.s 2)), q (.bin .quo (.l 0) (i 8)), w 5 (.mv (.l 0))])
   (.seq (.seq (.reg [w 12 (.mv (.s 3)), w 13 (.len (.s 12)), w 14 (.mv (i 0))])
   (.block 0 mem_Mem_Write_l1))
   (.seq (.reg [w 4 (.mv (i 0))])
   (.ret [f,f,f,f,t,f,f,f,f,f,f,f,f,f,f,f,f,f,f,f])))))) }
def k_mem_Mem_Write : List Go.Tmp := [0, 1, 2, 3, 8, 9, 10, 11, 12, 13, 14, 19, 22, 23, 24, 25, 44, 45, 46, 47]
theorem c_mem_Mem_Write : chkFun Go.Proofs.Tryz.prog (drawsOf Go.Proofs.Tryz.prog) k_mem_Mem_Write Go.Proofs.Tryz.f182 a_mem_Mem_Write = true := by kernel_rfl

/-- lockstep/word.Do -/
def a_word_Do : Fun := { np := 4, nslots := 8, keep := 0, raw := false, results := [(4, none), (5, none)], body :=
   (.seq (.reg [w 4 (.mv (ik .u64 0)), w 5 (.mv (i 0))])
   (.seq (.seq (.reg [q (.mv (.s 0)), q (.mv (.s 1)), q (.call .cl (.c (.one (.fn F.word_Two [] []))) [(.l 1), (.l 0)]), w 6 (.un .not (.l 0))])
   (.cond (.s 6) (.seq (.reg [w 4 (.mv (ik .u64 0)), w 5 (.mv (i 1))])
   (.ret [f,f,f,f,t,t,f,f]))
   .skip))
   (.seq (.reg [q (.mv (.s 2)), q (.mv (.s 1)), q (.call .cl (.c (.one (.fn F.word_Cut [] []))) [(.l 1), (.l 0)]), q (.mv (.s 3)), q (.mv (.s 1)), q (.call .cl (.c (.one (.fn F.word_Cut [] []))) [(.l 1), (.l 0)]), w 2 (.mv (.l 3)), w 3 (.mv (.l 1))])
   (.seq (.seq (.reg [q (.mv (.s 0)), q (.bin .eql (.l 0) (i 4)), q (.mv (.l 0)), ⟨.loc, .mv (.s 3), (some (.l 0, true))⟩, ⟨.loc, .bin .eql (.l 0) (ik .u64 0), (some (.l 1, true))⟩, w 7 (.pick (.l 2) (.l 0) (bo false))])
   (.cond (.s 7) (.seq (.reg [w 4 (.mv (ik .u64 0)), w 5 (.mv (i 8))])
   (.ret [f,f,f,f,t,t,f,f]))
   .skip))
   (.seq (.reg [q (.mv (.s 1)), q (.call .ck (.c (.one (.fn F.word_ways [] []))) [(.l 0)]), q (.mv (.s 0)), q (.idx 13 (.l 1) (.l 0)), q (.mv (.s 2)), q (.mv (.s 3)), q (.call .op (.l 2) [(.l 1), (.l 0)]), q (.mv (.s 1)), q (.call .cl (.c (.one (.fn F.word_Cut [] []))) [(.l 1), (.l 0)]), w 4 (.mv (.l 0)), w 5 (.mv (i 0))])
   (.ret [f,f,f,f,t,t,f,f])))))) }
def k_word_Do : List Go.Tmp := [0, 1, 2, 3, 8, 9, 13, 25]
theorem c_word_Do : chkFun Go.Proofs.Tryz.prog (drawsOf Go.Proofs.Tryz.prog) k_word_Do Go.Proofs.Tryz.f183 a_word_Do = true := by kernel_rfl

def slices_Values_int_int__1_b0 : Go.A.Code :=
   (.seq (.reg [w 6 (.bin .lss (.s 5) (.s 4))])
   (.seq (.cond (.s 6) .skip
   (.exit 0 [f,f,f,f,f,f,f,f] 0))
   (.seq (.block 1 (.seq (.reg [q (.ia 1 (.s 3) (.s 5)), q (.ld none (.l 0)), w 2 (.mv (.l 0))])
   (.seq (.reg [q (.mv (.s 0)), q (.mv (.s 2)), q (.call .op (.l 1) [(.l 0)]), w 7 (.un .not (.l 0))])
   (.cond (.s 7) (.ret [f,f,f,f,f,f,f,f])
   .skip))))
   (.reg [q (.bin .add (.s 5) (i 1)), w 5 (.mv (.l 0))]))))
def slices_Values_int_int__1_l0 : Go.A.Code := .loop [t,f,f,t,t,t,f,f] 0 slices_Values_int_int__1_b0
theorem slices_Values_int_int__1_l0_eq (T : Nat → Option Entry) (s : St) : exec T slices_Values_int_int__1_l0 s = (exec T slices_Values_int_int__1_b0 s).bind (loopK (exec T slices_Values_int_int__1_l0) [t,f,f,t,t,t,f,f] 0) := exec_loop T s _ _ _
/-- slices.Values[[]int,int]$1 -/
def a_slices_Values_int_int__1 : Fun := { np := 2, nslots := 8, keep := 0, raw := false, results := [], body :=
   (.seq (.reg [w 3 (.ld none (.s 1)), w 4 (.len (.s 3)), w 5 (.mv (i 0))])
   (.block 0 slices_Values_int_int__1_l0)) }
def k_slices_Values_int_int__1 : List Go.Tmp := [0, 1, 4, 5, 6, 7, 8, 14]
theorem c_slices_Values_int_int__1 : chkFun Go.Proofs.Tryz.prog (drawsOf Go.Proofs.Tryz.prog) k_slices_Values_int_int__1 Go.Proofs.Tryz.f193 a_slices_Values_int_int__1 = true := by kernel_rfl

/-- slices.ContainsFunc[[][]int,[]int] -/
def a_slices_ContainsFunc_sint : Fun := { np := 2, nslots := 3, keep := 0, raw := false, results := [(2, none)], body :=
   (.seq (.reg [w 2 (.mv (bo false))])
   (.seq (.reg [q (.mv (.s 0)), q (.mv (.s 1)), q (.call .op (.c (.one (.fn F.slices_IndexFunc_sint [] []))) [(.l 1), (.l 0)]), q (.bin .geq (.l 0) (i 0)), w 2 (.mv (.l 0))])
   (.ret [f,f,t]))) }
def k_slices_ContainsFunc_sint : List Go.Tmp := [0, 1, 4]
theorem c_slices_ContainsFunc_sint : chkFun Go.Proofs.Tryz.prog (drawsOf Go.Proofs.Tryz.prog) k_slices_ContainsFunc_sint Go.Proofs.Tryz.f194 a_slices_ContainsFunc_sint = true := by kernel_rfl

/-- lockstep/graph.Make$1 -/
def a_graph_Make_1 : Fun := { np := 2, nslots := 3, keep := 0, raw := false, results := [(2, none)], body :=
   (.seq (.reg [w 2 (.mv (bo false))])
   (.seq (.reg [q (.mv (.s 0)), q (.ld none (.s 1)), q (.call .cl (.c (.one (.fn F.graph_rising [] []))) [(.l 1), (.l 0)]), q (.un .not (.l 0)), w 2 (.mv (.l 0))])
   (.ret [f,f,t]))) }
def k_graph_Make_1 : List Go.Tmp := [0, 1, 3]
theorem c_graph_Make_1 : chkFun Go.Proofs.Tryz.prog (drawsOf Go.Proofs.Tryz.prog) k_graph_Make_1 Go.Proofs.Tryz.f195 a_graph_Make_1 = true := by kernel_rfl

def graph_rising_b0 : Go.A.Code :=
   (.seq (.reg [w 8 (.bin .lss (.s 7) (.s 6))])
   (.seq (.cond (.s 8) .skip
   (.exit 0 [f,f,f,f,f,f,f,f,f,f] 0))
   (.seq (.block 1 (.seq (.reg [q (.ia 1 (.s 5) (.s 7)), q (.ld none (.l 0)), w 4 (.mv (.l 0))])
   (.seq (.seq (.reg [q (.mv (.s 4)), q (.mv (.s 3)), q (.bin .leq (.l 1) (.l 0)), q (.mv (.l 0)), ⟨.loc, .mv (.s 4), (some (.l 0, false))⟩, ⟨.loc, .mv (.s 1), (some (.l 1, false))⟩, ⟨.loc, .bin .geq (.l 1) (.l 0), (some (.l 2, false))⟩, w 9 (.pick (.l 3) (bo true) (.l 0))])
   (.cond (.s 9) (.seq (.reg [w 2 (.mv (bo false))])
   (.ret [f,f,t,f,f,f,f,f,f,f]))
   .skip))
   (.reg [q (.mv (.s 4)), w 3 (.mv (.l 0))]))))
   (.reg [q (.bin .add (.s 7) (i 1)), w 7 (.mv (.l 0))]))))
def graph_rising_l0 : Go.A.Code := .loop [f,t,f,t,f,t,t,t,f,f] 0 graph_rising_b0
theorem graph_rising_l0_eq (T : Nat → Option Entry) (s : St) : exec T graph_rising_l0 s = (exec T graph_rising_b0 s).bind (loopK (exec T graph_rising_l0) [f,t,f,t,f,t,t,t,f,f] 0) := exec_loop T s _ _ _
/-- lockstep/graph.rising -/
def a_graph_rising : Fun := { np := 2, nslots := 10, keep := 0, raw := false, results := [(2, none)], body :=
   (.seq (.reg [w 2 (.mv (bo false))])
   (.seq (.reg [w 3 (.mv (i (-1)))])
   (.seq (.seq (.reg [w 5 (.mv (.s 0)), w 6 (.len (.s 5)), w 7 (.mv (i 0))])
   (.block 0 graph_rising_l0))
   (.seq (.reg [w 2 (.mv (bo true))])
   (.ret [f,f,t,f,f,f,f,f,f,f]))))) }
def k_graph_rising : List Go.Tmp := [0, 1, 4, 5, 7, 8, 9, 10, 11, 21]
theorem c_graph_rising : chkFun Go.Proofs.Tryz.prog (drawsOf Go.Proofs.Tryz.prog) k_graph_rising Go.Proofs.Tryz.f196 a_graph_rising = true := by kernel_rfl

def graph_preds_b0 : Go.A.Code :=
   (.seq (.reg [w 13 (.bin .lss (.s 12) (.s 11))])
   (.seq (.cond (.s 13) .skip
   (.exit 2 [f,f,t,f,f,f,t,t,t,f,f,f,f,f] 2))
   (.seq (.block 3 (.seq (.reg [q (.ia 1 (.s 10) (.s 12)), q (.ld none (.l 0)), w 5 (.mv (.l 0))])
   (.reg [q (.mv (.s 2)), q (.mv (.s 5)), q (.mv (.s 2)), q (.mv (.s 5)), q (.ia 1 (.l 1) (.l 0)), q (.ld none (.l 0)), q (.mv (.s 3)), q (.bsl .fz 1 [[.f (.lit (.int .i64 0))]] [(0, (.l 0))]), q (.app 1 (.l 2) (.l 0)), q (.ia 1 (.l 8) (.l 7)), e (.st 1 (.l 0) (.l 1))])))
   (.reg [q (.bin .add (.s 12) (i 1)), w 12 (.mv (.l 0))]))))
def graph_preds_l0 : Go.A.Code := .loop [f,f,t,t,f,f,t,t,t,f,t,t,t,f] 2 graph_preds_b0
theorem graph_preds_l0_eq (T : Nat → Option Entry) (s : St) : exec T graph_preds_l0 s = (exec T graph_preds_b0 s).bind (loopK (exec T graph_preds_l0) [f,f,t,t,f,f,t,t,t,f,t,t,t,f] 2) := exec_loop T s _ _ _
def graph_preds_b1 : Go.A.Code :=
   (.seq (.reg [w 9 (.bin .lss (.s 8) (.s 7))])
   (.seq (.cond (.s 9) .skip
   (.exit 0 [f,f,t,f,f,f,f,f,f,f,f,f,f,f] 2))
   (.seq (.block 1 (.seq (.reg [q (.mv (.s 8)), q (.ia 1 (.s 6) (.s 8)), q (.ld none (.l 0)), w 3 (.mv (.l 2)), w 4 (.mv (.l 1))])
   (.seq (.reg [w 10 (.mv (.s 4)), w 11 (.len (.s 10)), w 12 (.mv (i 0))])
   (.block 2 graph_preds_l0))))
   (.reg [q (.bin .add (.s 8) (i 1)), w 8 (.mv (.l 0))]))))
def graph_preds_l1 : Go.A.Code := .loop [f,f,t,f,f,f,t,t,t,f,f,f,f,f] 2 graph_preds_b1
theorem graph_preds_l1_eq (T : Nat → Option Entry) (s : St) : exec T graph_preds_l1 s = (exec T graph_preds_b1 s).bind (loopK (exec T graph_preds_l1) [f,f,t,f,f,f,t,t,t,f,f,f,f,f] 2) := exec_loop T s _ _ _
/-- lockstep/graph.preds -/
def a_graph_preds : Fun := { np := 1, nslots := 14, keep := 0, raw := false, results := [(1, none)], body :=
   (.seq (.reg [w 1 (.mv (.c (.one (.f (.sl [])))))])
   (.seq (.reg [q (.mv (.s 0)), q (.len (.l 0)), q (.mks [.f (.sl [])] (some (0, 1)) (.l 0)), w 2 (.mv (.l 0))])
   (.seq (.seq (.reg [w 6 (.mv (.s 0)), w 7 (.len (.s 6)), w 8 (.mv (i 0))])
   (.block 0 graph_preds_l1))
   (.seq (.reg [q (.mv (.s 2)), w 1 (.mv (.l 0))])
   (.ret [f,t,f,f,f,f,f,f,f,f,f,f,f,f]))))) }
def k_graph_preds : List Go.Tmp := [0, 2, 3, 4, 5, 7, 11, 12, 13, 14, 18, 19, 20, 21]
theorem c_graph_preds : chkFun Go.Proofs.Tryz.prog (drawsOf Go.Proofs.Tryz.prog) k_graph_preds Go.Proofs.Tryz.f197 a_graph_preds = true := by kernel_rfl

/-- lockstep/graph.May -/
def a_graph_May : Fun := { np := 1, nslots := 5, keep := 0, raw := false, results := [(2, none)], body :=
   (.seq (.reg [w 1 (.box 2 (.s 0)), w 2 (.mv (bo false))])
   (.seq (.reg [q (.fa 0 (.s 1)), q (.ld none (.l 0)), q (.call .cl (.c (.one (.fn F.graph_Make [] []))) [(.l 0)]), q (.mv (.l 0)), q (.ext (.l 0) 0), q (.ext (.l 1) 1), w 3 (.al [.f (.sl []), .f (.sl [])] []), e (.st 2 (.s 3) (.l 2)), w 4 (.mv (.l 2))])
   (.seq (.reg [q (.mv (.s 4)), q (.bin .eql (.l 0) (i 0)), q (.mv (.l 0)), ⟨.loc, .fa 1 (.s 3), (some (.l 0, true))⟩, ⟨.loc, .ld none (.l 0), (some (.l 1, true))⟩, ⟨.loc, .fa 1 (.s 1), (some (.l 2, true))⟩, ⟨.loc, .ld none (.l 0), (some (.l 3, true))⟩, ⟨.loc, .call .op (.c (.one (.fn F.slices_EqualFunc_sint [] []))) [(.l 2), (.l 0), (.c (.one (.fn F.slices_Equal_int [] [])))], (some (.l 4, true))⟩, q (.pick (.l 5) (.l 0) (bo false)), w 2 (.mv (.l 0))])
   (.ret [f,f,t,f,f])))) }
def k_graph_May : List Go.Tmp := [0, 1, 2, 3, 4]
theorem c_graph_May : chkFun Go.Proofs.Tryz.prog (drawsOf Go.Proofs.Tryz.prog) k_graph_May Go.Proofs.Tryz.f198 a_graph_May = true := by kernel_rfl

def slices_Reverse_int_b0 : Go.A.Code :=
   (.seq (.seq (.reg [q (.mv (.s 1)), q (.mv (.s 2)), w 3 (.bin .lss (.l 1) (.l 0))])
   (.cond (.s 3) .skip
   (.exit 0 [f,f,f,f] 0)))
   (.seq (.block 1 (.reg [q (.mv (.s 0)), q (.mv (.s 1)), q (.mv (.s 0)), q (.mv (.s 2)), q (.mv (.s 0)), q (.mv (.s 2)), q (.ia 1 (.l 1) (.l 0)), q (.ld none (.l 0)), q (.mv (.s 0)), q (.mv (.s 1)), q (.ia 1 (.l 1) (.l 0)), q (.ld none (.l 0)), q (.ia 1 (.l 11) (.l 10)), e (.st 1 (.l 0) (.l 5)), q (.ia 1 (.l 11) (.l 10)), e (.st 1 (.l 0) (.l 3))]))
   (.reg [q (.mv (.s 1)), q (.bin .add (.l 0) (i 1)), q (.mv (.s 2)), q (.bin .sub (.l 0) (i 1)), w 1 (.mv (.l 2)), w 2 (.mv (.l 1))])))
def slices_Reverse_int_l0 : Go.A.Code := .loop [t,t,t,f] 0 slices_Reverse_int_b0
theorem slices_Reverse_int_l0_eq (T : Nat → Option Entry) (s : St) : exec T slices_Reverse_int_l0 s = (exec T slices_Reverse_int_b0 s).bind (loopK (exec T slices_Reverse_int_l0) [t,t,t,f] 0) := exec_loop T s _ _ _
/-- slices.Reverse[[]int,int] -/
def a_slices_Reverse_int : Fun := { np := 1, nslots := 4, keep := 0, raw := false, results := [], body :=
   (.seq (.reg [q (.mv (.s 0)), q (.len (.l 0)), q (.bin .sub (.l 0) (i 1)), w 1 (.mv (i 0)), w 2 (.mv (.l 1))])
   (.block 0 slices_Reverse_int_l0)) }
def k_slices_Reverse_int : List Go.Tmp := [0, 2, 3, 9]
theorem c_slices_Reverse_int : chkFun Go.Proofs.Tryz.prog (drawsOf Go.Proofs.Tryz.prog) k_slices_Reverse_int Go.Proofs.Tryz.f199 a_slices_Reverse_int = true := by kernel_rfl

/-- math/bits.Mul -/
def a_bits_Mul : Fun := { np := 2, nslots := 8, keep := 0, raw := false, results := [(2, none), (3, none)], body :=
   (.seq (.reg [w 2 (.mv (ik .u64 0)), w 3 (.mv (ik .u64 0))])
   (.seq (.cond (bo false) (.seq (.reg [q (.mv (.s 0)), q (.conv .u32 (.l 0)), q (.mv (.s 1)), q (.conv .u32 (.l 0)), q (.call .cl (.c (.one (.fn F.bits_Mul32 [] []))) [(.l 2), (.l 0)]), q (.mv (.l 0)), q (.ext (.l 0) 0), q (.ext (.l 1) 1), w 4 (.mv (.l 1)), w 5 (.mv (.l 1))])
   (.seq (.reg [q (.mv (.s 4)), q (.conv .u64 (.l 0)), q (.mv (.s 5)), q (.conv .u64 (.l 0)), w 2 (.mv (.l 2)), w 3 (.mv (.l 1))])
   (.ret [f,f,t,t,f,f,f,f])))
   .skip)
   (.seq (.reg [q (.mv (.s 0)), q (.mv (.s 1)), q (.call .cl (.c (.one (.fn F.bits_Mul64 [] []))) [(.l 1), (.l 0)]), q (.mv (.l 0)), q (.ext (.l 0) 0), q (.ext (.l 1) 1), w 6 (.mv (.l 1)), w 7 (.mv (.l 1))])
   (.seq (.reg [q (.mv (.s 6)), q (.mv (.s 7)), w 2 (.mv (.l 1)), w 3 (.mv (.l 1))])
   (.ret [f,f,t,t,f,f,f,f]))))) }
def k_bits_Mul : List Go.Tmp := [0, 1, 4, 5, 6, 7, 8, 9]
theorem c_bits_Mul : chkFun Go.Proofs.Tryz.prog (drawsOf Go.Proofs.Tryz.prog) k_bits_Mul Go.Proofs.Tryz.f200 a_bits_Mul = true := by kernel_rfl

def dom_right_b0 : Go.A.Code :=
   (.seq (.reg [w 8 (.bin .lss (.s 7) (.s 6))])
   (.seq (.cond (.s 8) .skip
   (.exit 0 [f,f,t,f,f,f,f,f,f,f,f] 0))
   (.seq (.block 1 (.seq (.reg [q (.mv (.s 7)), q (.ia 1 (.s 5) (.s 7)), q (.ld none (.l 0)), w 3 (.mv (.l 2)), w 4 (.mv (.l 1))])
   (.seq (.seq (.reg [q (.mv (.s 4)), w 9 (.bin .eql (.l 0) (i (-1)))])
   (.cond (.s 9) (.reg [q (.mv (.s 2)), q (.bin .add (.l 0) (i 1)), w 2 (.mv (.l 0))])
   .skip))
   (.seq (.reg [q (.mv (.s 4)), q (.bin .neq (.l 0) (i (-2))), q (.mv (.l 0)), ⟨.loc, .mv (.s 0), (some (.l 0, true))⟩, ⟨.loc, .mv (.s 3), (some (.l 1, true))⟩, ⟨.loc, .call .cl (.c (.one (.fn F.dom_depth [] []))) [(.l 1), (.l 0)], (some (.l 2, true))⟩, ⟨.loc, .bin .lss (.l 0) (i 0), (some (.l 3, true))⟩, w 10 (.pick (.l 4) (.l 0) (bo false))])
   (.cond (.s 10) (.seq (.reg [w 1 (.mv (bo false))])
   (.ret [f,t,f,f,f,f,f,f,f,f,f]))
   .skip)))))
   (.reg [q (.bin .add (.s 7) (i 1)), w 7 (.mv (.l 0))]))))
def dom_right_l0 : Go.A.Code := .loop [t,f,t,f,f,t,t,t,f,f,f] 0 dom_right_b0
theorem dom_right_l0_eq (T : Nat → Option Entry) (s : St) : exec T dom_right_l0 s = (exec T dom_right_b0 s).bind (loopK (exec T dom_right_l0) [t,f,t,f,f,t,t,t,f,f,f] 0) := exec_loop T s _ _ _
/-- lockstep/dom.right -/
def a_dom_right : Fun := { np := 1, nslots := 11, keep := 0, raw := false, results := [(1, none)], body :=
   (.seq (.reg [w 1 (.mv (bo false))])
   (.seq (.reg [w 2 (.mv (i 0))])
   (.seq (.seq (.reg [w 5 (.mv (.s 0)), w 6 (.len (.s 5)), w 7 (.mv (i 0))])
   (.block 0 dom_right_l0))
   (.seq (.reg [q (.mv (.s 2)), q (.bin .eql (.l 0) (i 1)), w 1 (.mv (.l 0))])
   (.ret [f,t,f,f,f,f,f,f,f,f,f]))))) }
def k_dom_right : List Go.Tmp := [0, 2, 3, 4, 5, 6, 7, 8, 9, 14, 24]
theorem c_dom_right : chkFun Go.Proofs.Tryz.prog (drawsOf Go.Proofs.Tryz.prog) k_dom_right Go.Proofs.Tryz.f201 a_dom_right = true := by kernel_rfl

/-- lockstep/dom.in$1 -/
def a_dom_in_1 : Fun := { np := 2, nslots := 3, keep := 0, raw := false, results := [(2, none)], body :=
   (.seq (.reg [w 2 (.mv (bo false))])
   (.seq (.reg [q (.ld none (.s 1)), q (.mv (.s 0)), q (.call .cl (.c (.one (.fn F.dom_depth [] []))) [(.l 1), (.l 0)]), q (.bin .lss (.l 0) (i 0)), w 2 (.mv (.l 0))])
   (.ret [f,f,t]))) }
def k_dom_in_1 : List Go.Tmp := [0, 1, 3]
theorem c_dom_in_1 : chkFun Go.Proofs.Tryz.prog (drawsOf Go.Proofs.Tryz.prog) k_dom_in_1 Go.Proofs.Tryz.f202 a_dom_in_1 = true := by kernel_rfl

def dom_depth_b0 : Go.A.Code :=
   (.seq (.reg [w 6 (.bin .lss (.s 5) (.s 4))])
   (.seq (.cond (.s 6) .skip
   (.exit 0 [f,f,f,f,f,f,f,f,f] 0))
   (.seq (.block 1 (.seq (.reg [q (.mv (.s 5)), w 3 (.mv (.l 0))])
   (.seq (.seq (.reg [q (.mv (.s 1)), q (.bin .lss (.l 0) (i 0)), q (.mv (.l 0)), ⟨.loc, .mv (.s 1), (some (.l 0, false))⟩, ⟨.loc, .mv (.s 0), (some (.l 1, false))⟩, ⟨.loc, .len (.l 0), (some (.l 2, false))⟩, ⟨.loc, .bin .geq (.l 2) (.l 0), (some (.l 3, false))⟩, w 7 (.pick (.l 4) (bo true) (.l 0))])
   (.cond (.s 7) (.seq (.reg [w 2 (.mv (i (-1)))])
   (.ret [f,f,t,f,f,f,f,f,f]))
   .skip))
   (.seq (.seq (.reg [q (.mv (.s 0)), q (.mv (.s 1)), q (.ia 1 (.l 1) (.l 0)), q (.ld none (.l 0)), w 8 (.bin .eql (.l 0) (i (-1)))])
   (.cond (.s 8) (.seq (.reg [q (.mv (.s 3)), w 2 (.mv (.l 0))])
   (.ret [f,f,t,f,f,f,f,f,f]))
   .skip))
   (.reg [q (.mv (.s 0)), q (.mv (.s 1)), q (.ia 1 (.l 1) (.l 0)), q (.ld none (.l 0)), w 1 (.mv (.l 0))])))))
   (.reg [q (.bin .add (.s 5) (i 1)), w 5 (.mv (.l 0))]))))
def dom_depth_l0 : Go.A.Code := .loop [t,t,f,f,t,t,f,f,f] 0 dom_depth_b0
theorem dom_depth_l0_eq (T : Nat → Option Entry) (s : St) : exec T dom_depth_l0 s = (exec T dom_depth_b0 s).bind (loopK (exec T dom_depth_l0) [t,t,f,f,t,t,f,f,f] 0) := exec_loop T s _ _ _
/-- lockstep/dom.depth -/
def a_dom_depth : Fun := { np := 2, nslots := 9, keep := 0, raw := false, results := [(2, none)], body :=
   (.seq (.reg [w 2 (.mv (i 0))])
   (.seq (.seq (.reg [q (.mv (.s 0)), w 4 (.len (.l 0)), w 5 (.mv (i 0))])
   (.block 0 dom_depth_l0))
   (.seq (.reg [w 2 (.mv (i (-1)))])
   (.ret [f,f,t,f,f,f,f,f,f])))) }
def k_dom_depth : List Go.Tmp := [0, 1, 4, 5, 7, 8, 9, 18, 23]
theorem c_dom_depth : chkFun Go.Proofs.Tryz.prog (drawsOf Go.Proofs.Tryz.prog) k_dom_depth Go.Proofs.Tryz.f203 a_dom_depth = true := by kernel_rfl

/-- lockstep/kind.takes -/
def a_kind_takes : Fun := { np := 1, nslots := 23, keep := 0, raw := false, results := [(2, none), (3, none)], body :=
   (.seq (.reg [w 1 (.box 6 (.s 0)), w 2 (.mv (.c (.one (.f (.sl []))))), w 3 (.mv (bo false))])
   (.seq (.regd [(6, 15)] [q (.fa 1 (.s 1)), q (.ld none (.l 0)), q (.fa 2 (.s 1)), q (.ld none (.l 0)), q (.bld [.f (.lit (.int .i64 0)), .f (.lit (.int .i64 0))] [(0, 1, (.l 2)), (1, 1, (.l 0))] []), q (.fa 1 (.s 1)), q (.ld none (.l 0)), q (.bld [.f (.lit (.int .i64 0)), .f (.lit (.int .i64 0))] [(0, 1, (.l 0)), (1, 1, (i 1))] []), q (.bld [.f (.lit (.int .i64 0)), .f (.lit (.int .i64 0))] [(0, 1, (i 1)), (1, 1, (i 1))] []), q (.bld [.f (.lit (.int .i64 0)), .f (.lit (.int .i64 0))] [(0, 1, (i 64)), (1, 1, (i 1))] []), w 4 (.al [.f (.lit (.int .i64 0)), .f (.lit (.int .i64 0))] []), w 5 (.al [.f (.lit (.int .i64 0)), .f (.lit (.int .i64 0))] []), w 6 (.al [.f (.lit (.int .i64 0)), .f (.lit (.int .i64 0))] []), w 7 (.al [.f (.lit (.int .i64 0)), .f (.lit (.int .i64 0))] []), e (.st 2 (.s 4) (.l 9)), e (.st 2 (.s 5) (.l 7)), e (.st 2 (.s 6) (.l 7)), e (.st 2 (.s 7) (.l 7))])
   (.seq (.reg [q (.fa 2 (.s 1)), q (.ld none (.l 0)), q (.bin .eql (.l 0) (i 1)), q (.fa 1 (.s 1)), q (.ld none (.l 0)), q (.bin .geq (.l 0) (i 8)), w 8 (.mv (.l 3)), w 9 (.mv (.l 1))])
   (.seq (.seq (.reg [q (.fa 0 (.s 1)), w 10 (.ld none (.l 0))])
   (.block 0 (.seq (.reg [q (.bin .eql (.s 10) (i 0)), w 11 (.mv (.l 0))])
   (.cond (.s 11) (.seq (.reg [q (.fa 5 (.s 1)), q (.ld none (.l 0)), q (.fa 1 (.s 1)), q (.ld none (.l 0)), q (.call .cl (.c (.one (.fn F.word_Cut [] []))) [(.l 2), (.l 0)]), q (.fa 5 (.s 1)), q (.ld none (.l 0)), q (.bin .eql (.l 2) (.l 0)), w 2 (.mv (.c (.one (.f (.sl []))))), w 3 (.mv (.l 1))])
   (.ret [f,f,t,t,f,f,f,f,f,f,f,f,f,f,f,f,f,f,f,f,f,f,f]))
   (.seq (.seq (.reg [q (.bin .eql (.s 10) (i 1)), w 12 (.mv (.l 0))])
   (.cond (.s 12) .skip
   (.seq (.reg [q (.bin .eql (.s 10) (i 2)), w 12 (.mv (.l 0))])
   (.cond (.s 12) .skip
   (.seq (.reg [q (.bin .eql (.s 10) (i 3)), w 12 (.mv (.l 0))])
   (.cond (.s 12) .skip
   (.seq (.reg [q (.bin .eql (.s 10) (i 5)), w 12 (.mv (.l 0))])
   (.cond (.s 12) .skip
   (.seq (.reg [q (.bin .eql (.s 10) (i 6)), w 12 (.mv (.l 0))])
   (.cond (.s 12) .skip
   (.seq (.reg [q (.bin .eql (.s 10) (i 7)), w 12 (.mv (.l 0))])
   (.cond (.s 12) .skip
   (.seq (.reg [q (.bin .eql (.s 10) (i 8)), w 12 (.mv (.l 0))])
   (.cond (.s 12) .skip
   (.reg [q (.bin .eql (.s 10) (i 9)), w 12 (.mv (.l 0))])))))))))))))))
   (.cond (.s 12) (.seq (.reg [q (.ld (some 2) (.s 4)), q (.ld (some 2) (.s 4)), q (.bsl .fz 2 [[.f (.lit (.int .i64 0)), .f (.lit (.int .i64 0))], [.f (.lit (.int .i64 0)), .f (.lit (.int .i64 0))]] [(0, (.l 1)), (1, (.l 0))]), q (.call .cl (.c (.one (.fn F.kind_row [] []))) [(.l 0)]), q (.fa 5 (.s 1)), q (.ld none (.l 0)), q (.bin .eql (.l 0) (ik .u64 0)), w 2 (.mv (.l 3)), w 3 (.mv (.l 1))])
   (.ret [f,f,t,t,f,f,f,f,f,f,f,f,f,f,f,f,f,f,f,f,f,f,f]))
   (.seq (.seq (.reg [q (.bin .eql (.s 10) (i 4)), w 13 (.mv (.l 0))])
   (.cond (.s 13) .skip
   (.seq (.reg [q (.bin .eql (.s 10) (i 10)), w 13 (.mv (.l 0))])
   (.cond (.s 13) .skip
   (.seq (.reg [q (.bin .eql (.s 10) (i 11)), w 13 (.mv (.l 0))])
   (.cond (.s 13) .skip
   (.reg [q (.bin .eql (.s 10) (i 12)), w 13 (.mv (.l 0))])))))))
   (.cond (.s 13) (.seq (.reg [q (.ld (some 2) (.s 4)), q (.ld (some 2) (.s 4)), q (.bsl .fz 2 [[.f (.lit (.int .i64 0)), .f (.lit (.int .i64 0))], [.f (.lit (.int .i64 0)), .f (.lit (.int .i64 0))]] [(0, (.l 1)), (1, (.l 0))]), q (.call .cl (.c (.one (.fn F.kind_row [] []))) [(.l 0)]), q (.fa 5 (.s 1)), q (.ld none (.l 0)), q (.bin .eql (.l 0) (ik .u64 0)), q (.mv (.l 0)), ⟨.loc, .mv (.s 8), (some (.l 0, true))⟩, q (.pick (.l 1) (.l 0) (bo false)), w 2 (.mv (.l 6)), w 3 (.mv (.l 1))])
   (.ret [f,f,t,t,f,f,f,f,f,f,f,f,f,f,f,f,f,f,f,f,f,f,f]))
   (.seq (.reg [q (.bin .eql (.s 10) (i 13)), w 14 (.mv (.l 0))])
   (.cond (.s 14) (.seq (.reg [q (.ld (some 2) (.s 6)), q (.ld (some 2) (.s 4)), q (.ld (some 2) (.s 4)), q (.bsl .fz 2 [[.f (.lit (.int .i64 0)), .f (.lit (.int .i64 0))], [.f (.lit (.int .i64 0)), .f (.lit (.int .i64 0))], [.f (.lit (.int .i64 0)), .f (.lit (.int .i64 0))]] [(0, (.l 2)), (1, (.l 1)), (2, (.l 0))]), q (.call .cl (.c (.one (.fn F.kind_row [] []))) [(.l 0)]), q (.fa 5 (.s 1)), q (.ld none (.l 0)), q (.bin .eql (.l 0) (ik .u64 0)), w 2 (.mv (.l 3)), w 3 (.mv (.l 1))])
   (.ret [f,f,t,t,f,f,f,f,f,f,f,f,f,f,f,f,f,f,f,f,f,f,f]))
   (.seq (.reg [q (.bin .eql (.s 10) (i 14)), w 15 (.mv (.l 0))])
   (.cond (.s 15) (.seq (.reg [q (.fa 5 (.s 1)), q (.ld none (.l 0)), q (.mxn false (.l 0) (ik .u64 128)), q (.conv .i64 (.l 0)), q (.bld [.f (.lit (.int .i64 0)), .f (.lit (.int .i64 0))] [(0, 1, (.l 0)), (1, 1, (i 1))] []), q (.bsl .fz 2 [[.f (.lit (.int .i64 0)), .f (.lit (.int .i64 0))]] [(0, (.l 0))]), q (.call .cl (.c (.one (.fn F.kind_row [] []))) [(.l 0)]), q (.mv (.s 8)), q (.mv (.l 0)), ⟨.loc, .fa 5 (.s 1), (some (.l 0, true))⟩, ⟨.loc, .ld none (.l 0), (some (.l 1, true))⟩, ⟨.loc, .fa 1 (.s 1), (some (.l 2, true))⟩, ⟨.loc, .ld none (.l 0), (some (.l 3, true))⟩, ⟨.loc, .conv .u64 (.l 0), (some (.l 4, true))⟩, ⟨.loc, .bin .lss (.l 3) (.l 0), (some (.l 5, true))⟩, q (.pick (.l 6) (.l 0) (bo false)), q (.mv (.l 0)), ⟨.loc, .fa 5 (.s 1), (some (.l 0, true))⟩, ⟨.loc, .ld none (.l 0), (some (.l 1, true))⟩, ⟨.loc, .conv .i64 (.l 0), (some (.l 2, true))⟩, ⟨.loc, .call .cl (.c (.one (.fn F.word_May [] []))) [(.l 0)], (some (.l 3, true))⟩, q (.pick (.l 4) (.l 0) (bo false)), w 2 (.mv (.l 15)), w 3 (.mv (.l 1))])
   (.ret [f,f,t,t,f,f,f,f,f,f,f,f,f,f,f,f,f,f,f,f,f,f,f]))
   (.seq (.reg [q (.bin .eql (.s 10) (i 15)), w 16 (.mv (.l 0))])
   (.cond (.s 16) (.seq (.reg [q (.fa 5 (.s 1)), q (.ld none (.l 0)), q (.mxn false (.l 0) (ik .u64 128)), q (.conv .i64 (.l 0)), q (.bld [.f (.lit (.int .i64 0)), .f (.lit (.int .i64 0))] [(0, 1, (.l 0)), (1, 1, (i 1))] []), q (.bsl .fz 2 [[.f (.lit (.int .i64 0)), .f (.lit (.int .i64 0))]] [(0, (.l 0))]), q (.call .cl (.c (.one (.fn F.kind_row [] []))) [(.l 0)]), q (.mv (.s 8)), q (.mv (.l 0)), ⟨.loc, .fa 5 (.s 1), (some (.l 0, true))⟩, ⟨.loc, .ld none (.l 0), (some (.l 1, true))⟩, ⟨.loc, .fa 1 (.s 1), (some (.l 2, true))⟩, ⟨.loc, .ld none (.l 0), (some (.l 3, true))⟩, ⟨.loc, .conv .u64 (.l 0), (some (.l 4, true))⟩, ⟨.loc, .bin .gtr (.l 3) (.l 0), (some (.l 5, true))⟩, q (.pick (.l 6) (.l 0) (bo false)), q (.mv (.l 0)), ⟨.loc, .fa 5 (.s 1), (some (.l 0, true))⟩, ⟨.loc, .ld none (.l 0), (some (.l 1, true))⟩, ⟨.loc, .bin .leq (.l 0) (ik .u64 64), (some (.l 2, true))⟩, q (.pick (.l 3) (.l 0) (bo false)), q (.mv (.l 0)), ⟨.loc, .fa 5 (.s 1), (some (.l 0, true))⟩, ⟨.loc, .ld none (.l 0), (some (.l 1, true))⟩, ⟨.loc, .conv .i64 (.l 0), (some (.l 2, true))⟩, ⟨.loc, .call .cl (.c (.one (.fn F.word_May [] []))) [(.l 0)], (some (.l 3, true))⟩, q (.pick (.l 4) (.l 0) (bo false)), w 2 (.mv (.l 20)), w 3 (.mv (.l 1))])
   (.ret [f,f,t,t,f,f,f,f,f,f,f,f,f,f,f,f,f,f,f,f,f,f,f]))
   (.seq (.reg [q (.bin .eql (.s 10) (i 16)), w 17 (.mv (.l 0))])
   (.cond (.s 17) (.seq (.reg [q (.ld (some 2) (.s 7)), q (.bsl .fz 2 [[.f (.lit (.int .i64 0)), .f (.lit (.int .i64 0))]] [(0, (.l 0))]), q (.call .cl (.c (.one (.fn F.kind_row [] []))) [(.l 0)]), q (.fa 5 (.s 1)), q (.ld none (.l 0)), q (.bin .eql (.l 0) (ik .u64 0)), q (.mv (.l 0)), ⟨.loc, .mv (.s 9), (some (.l 0, true))⟩, q (.pick (.l 1) (.l 0) (bo false)), w 2 (.mv (.l 6)), w 3 (.mv (.l 1))])
   (.ret [f,f,t,t,f,f,f,f,f,f,f,f,f,f,f,f,f,f,f,f,f,f,f]))
   (.seq (.reg [q (.bin .eql (.s 10) (i 17)), w 18 (.mv (.l 0))])
   (.cond (.s 18) (.seq (.reg [q (.ld (some 2) (.s 7)), q (.ld (some 2) (.s 4)), q (.bsl .fz 2 [[.f (.lit (.int .i64 0)), .f (.lit (.int .i64 0))], [.f (.lit (.int .i64 0)), .f (.lit (.int .i64 0))]] [(0, (.l 1)), (1, (.l 0))]), q (.call .cl (.c (.one (.fn F.kind_row [] []))) [(.l 0)]), q (.fa 5 (.s 1)), q (.ld none (.l 0)), q (.bin .eql (.l 0) (ik .u64 0)), q (.mv (.l 0)), ⟨.loc, .mv (.s 9), (some (.l 0, true))⟩, q (.pick (.l 1) (.l 0) (bo false)), w 2 (.mv (.l 6)), w 3 (.mv (.l 1))])
   (.ret [f,f,t,t,f,f,f,f,f,f,f,f,f,f,f,f,f,f,f,f,f,f,f]))
   (.seq (.seq (.reg [q (.bin .eql (.s 10) (i 18)), w 19 (.mv (.l 0))])
   (.cond (.s 19) .skip
   (.reg [q (.bin .eql (.s 10) (i 19)), w 19 (.mv (.l 0))])))
   (.cond (.s 19) (.seq (.reg [q (.ld (some 2) (.s 6)), q (.ld (some 2) (.s 7)), q (.ld (some 2) (.s 4)), q (.bsl .fz 2 [[.f (.lit (.int .i64 0)), .f (.lit (.int .i64 0))], [.f (.lit (.int .i64 0)), .f (.lit (.int .i64 0))], [.f (.lit (.int .i64 0)), .f (.lit (.int .i64 0))]] [(0, (.l 2)), (1, (.l 1)), (2, (.l 0))]), q (.call .cl (.c (.one (.fn F.kind_row [] []))) [(.l 0)]), q (.fa 5 (.s 1)), q (.ld none (.l 0)), q (.bin .eql (.l 0) (ik .u64 0)), q (.mv (.l 0)), ⟨.loc, .mv (.s 8), (some (.l 0, true))⟩, q (.pick (.l 1) (.l 0) (bo false)), q (.mv (.l 0)), ⟨.loc, .mv (.s 9), (some (.l 0, true))⟩, q (.pick (.l 1) (.l 0) (bo false)), w 2 (.mv (.l 9)), w 3 (.mv (.l 1))])
   (.ret [f,f,t,t,f,f,f,f,f,f,f,f,f,f,f,f,f,f,f,f,f,f,f]))
   (.seq (.reg [q (.bin .eql (.s 10) (i 20)), w 20 (.mv (.l 0))])
   (.cond (.s 20) (.seq (.reg [q (.ld (some 2) (.s 6)), q (.ld (some 2) (.s 4)), q (.ld (some 2) (.s 4)), q (.ld (some 2) (.s 4)), q (.bsl .fz 2 [[.f (.lit (.int .i64 0)), .f (.lit (.int .i64 0))], [.f (.lit (.int .i64 0)), .f (.lit (.int .i64 0))], [.f (.lit (.int .i64 0)), .f (.lit (.int .i64 0))], [.f (.lit (.int .i64 0)), .f (.lit (.int .i64 0))]] [(0, (.l 3)), (1, (.l 2)), (2, (.l 1)), (3, (.l 0))]), q (.call .cl (.c (.one (.fn F.kind_row [] []))) [(.l 0)]), q (.fa 5 (.s 1)), q (.ld none (.l 0)), q (.bin .eql (.l 0) (ik .u64 0)), q (.mv (.l 0)), ⟨.loc, .mv (.s 8), (some (.l 0, true))⟩, q (.pick (.l 1) (.l 0) (bo false)), w 2 (.mv (.l 6)), w 3 (.mv (.l 1))])
   (.ret [f,f,t,t,f,f,f,f,f,f,f,f,f,f,f,f,f,f,f,f,f,f,f]))
   (.seq (.reg [q (.bin .eql (.s 10) (i 21)), w 21 (.mv (.l 0))])
   (.cond (.s 21) (.seq (.reg [q (.ld (some 2) (.s 5)), q (.bsl .fz 2 [[.f (.lit (.int .i64 0)), .f (.lit (.int .i64 0))]] [(0, (.l 0))]), q (.call .cl (.c (.one (.fn F.kind_row [] []))) [(.l 0)]), q (.fa 2 (.s 1)), q (.ld none (.l 0)), q (.call .cl (.c (.one (.fn F.slices_Repeat_2int [] []))) [(.l 2), (.l 0)]), q (.fa 5 (.s 1)), q (.ld none (.l 0)), q (.bin .eql (.l 0) (ik .u64 0)), q (.mv (.l 0)), ⟨.loc, .mv (.s 8), (some (.l 0, true))⟩, ⟨.loc, .un .not (.l 0), (some (.l 1, true))⟩, q (.pick (.l 2) (.l 0) (bo false)), w 2 (.mv (.l 7)), w 3 (.mv (.l 1))])
   (.ret [f,f,t,t,f,f,f,f,f,f,f,f,f,f,f,f,f,f,f,f,f,f,f]))
   (.seq (.reg [q (.bin .eql (.s 10) (i 22)), w 22 (.mv (.l 0))])
   (.cond (.s 22) (.seq (.reg [q (.ld (some 2) (.s 4)), q (.bsl .fz 2 [[.f (.lit (.int .i64 0)), .f (.lit (.int .i64 0))]] [(0, (.l 0))]), q (.call .cl (.c (.one (.fn F.kind_row [] []))) [(.l 0)]), q (.mv (.s 8)), q (.un .not (.l 0)), q (.mv (.l 0)), ⟨.loc, .fa 5 (.s 1), (some (.l 0, true))⟩, ⟨.loc, .ld none (.l 0), (some (.l 1, true))⟩, ⟨.loc, .fa 2 (.s 1), (some (.l 2, true))⟩, ⟨.loc, .ld none (.l 0), (some (.l 3, true))⟩, ⟨.loc, .conv .u64 (.l 0), (some (.l 4, true))⟩, ⟨.loc, .bin .lss (.l 3) (.l 0), (some (.l 5, true))⟩, q (.pick (.l 6) (.l 0) (bo false)), w 2 (.mv (.l 10)), w 3 (.mv (.l 1))])
   (.ret [f,f,t,t,f,f,f,f,f,f,f,f,f,f,f,f,f,f,f,f,f,f,f]))
   .skip))))))))))))))))))))))))))
   (.seq (.reg [w 2 (.mv (.c (.one (.f (.sl []))))), w 3 (.mv (bo false))])
   (.ret [f,f,t,t,f,f,f,f,f,f,f,f,f,f,f,f,f,f,f,f,f,f,f])))))) }
def k_kind_takes : List Go.Tmp := [0, 1, 2, 3, 4, 5, 6, 7, 8, 9, 27, 28, 38, 54, 69, 79, 103, 132, 143, 155, 172, 186, 201]
theorem c_kind_takes : chkFun Go.Proofs.Tryz.prog (drawsOf Go.Proofs.Tryz.prog) k_kind_takes Go.Proofs.Tryz.f204 a_kind_takes = true := by kernel_rfl

/-- lockstep/kind.value -/
def a_kind_value : Fun := { np := 1, nslots := 2, keep := 0, raw := false, results := [(1, none)], body :=
   (.seq (.reg [w 1 (.mv (bo false))])
   (.seq (.reg [q (.mv (.s 0)), q (.bin .geq (.l 0) (i 1)), q (.mv (.l 0)), ⟨.loc, .mv (.s 0), (some (.l 0, true))⟩, ⟨.loc, .bin .leq (.l 0) (i 1023), (some (.l 1, true))⟩, q (.pick (.l 2) (.l 0) (bo false)), w 1 (.mv (.l 0))])
   (.ret [f,t]))) }
def k_kind_value : List Go.Tmp := [0, 2]
theorem c_kind_value : chkFun Go.Proofs.Tryz.prog (drawsOf Go.Proofs.Tryz.prog) k_kind_value Go.Proofs.Tryz.f205 a_kind_value = true := by kernel_rfl

/-- lockstep/kind.May$1 -/
def a_kind_May_1 : Fun := { np := 1, nslots := 2, keep := 0, raw := false, results := [(1, none)], body :=
   (.seq (.reg [w 1 (.mv (bo false))])
   (.seq (.reg [q (.mv (.s 0)), q (.call .cl (.c (.one (.fn F.kind_value [] []))) [(.l 0)]), q (.un .not (.l 0)), w 1 (.mv (.l 0))])
   (.ret [f,t]))) }
def k_kind_May_1 : List Go.Tmp := [0, 2]
theorem c_kind_May_1 : chkFun Go.Proofs.Tryz.prog (drawsOf Go.Proofs.Tryz.prog) k_kind_May_1 Go.Proofs.Tryz.f206 a_kind_May_1 = true := by kernel_rfl

/-- lockstep/mem.may -/
def a_mem_may : Fun := { np := 2, nslots := 5, keep := 0, raw := false, results := [(2, none)], body :=
   (.seq (.reg [w 2 (.mv (bo false))])
   (.seq (.seq (.reg [w 3 (.mv (.s 0))])
   (.block 0 (.seq (.seq (.reg [q (.bin .eql (.s 3) (i 8)), w 4 (.mv (.l 0))])
   (.cond (.s 4) .skip
   (.seq (.reg [q (.bin .eql (.s 3) (i 16)), w 4 (.mv (.l 0))])
   (.cond (.s 4) .skip
   (.seq (.reg [q (.bin .eql (.s 3) (i 32)), w 4 (.mv (.l 0))])
   (.cond (.s 4) .skip
   (.reg [q (.bin .eql (.s 3) (i 64)), w 4 (.mv (.l 0))])))))))
   (.cond (.s 4) (.seq (.reg [q (.mv (.s 1)), q (.bin .geq (.l 0) (i 0)), q (.mv (.l 0)), ⟨.loc, .mv (.s 1), (some (.l 0, true))⟩, ⟨.loc, .bin .leq (.l 0) (i 16), (some (.l 1, true))⟩, q (.pick (.l 2) (.l 0) (bo false)), w 2 (.mv (.l 0))])
   (.ret [f,f,t,f,f]))
   .skip))))
   (.seq (.reg [w 2 (.mv (bo false))])
   (.ret [f,f,t,f,f])))) }
def k_mem_may : List Go.Tmp := [0, 1, 4, 5, 6]
theorem c_mem_may : chkFun Go.Proofs.Tryz.prog (drawsOf Go.Proofs.Tryz.prog) k_mem_may Go.Proofs.Tryz.f207 a_mem_may = true := by kernel_rfl

/-- (*lockstep/mem.Mem).There -/
def a_mem_Mem_There : Fun := { np := 3, nslots := 4, keep := 0, raw := false, results := [(3, none)], body :=
   (.seq (.reg [w 3 (.mv (bo false))])
   (.seq (.reg [q (.mv (.s 2)), q (.bin .geq (.l 0) (i 1)), q (.mv (.l 0)), ⟨.loc, .mv (.s 2), (some (.l 0, true))⟩, ⟨.loc, .mv (.s 0), (some (.l 1, true))⟩, ⟨.loc, .nil (.l 0), (some (.l 2, true))⟩, ⟨.loc, .fa 0 (.l 0), (some (.l 3, true))⟩, ⟨.loc, .ld none (.l 0), (some (.l 4, true))⟩, ⟨.loc, .len (.l 0), (some (.l 5, true))⟩, ⟨.loc, .bin .leq (.l 5) (.l 0), (some (.l 6, true))⟩, q (.pick (.l 7) (.l 0) (bo false)), q (.mv (.l 0)), ⟨.loc, .mv (.s 1), (some (.l 0, true))⟩, ⟨.loc, .mv (.s 0), (some (.l 1, true))⟩, ⟨.loc, .nil (.l 0), (some (.l 2, true))⟩, ⟨.loc, .fa 0 (.l 0), (some (.l 3, true))⟩, ⟨.loc, .ld none (.l 0), (some (.l 4, true))⟩, ⟨.loc, .len (.l 0), (some (.l 5, true))⟩, ⟨.loc, .mv (.s 2), (some (.l 6, true))⟩, ⟨.loc, .bin .sub (.l 1) (.l 0), (some (.l 7, true))⟩, ⟨.loc, .conv .u64 (.l 0), (some (.l 8, true))⟩, ⟨.loc, .bin .leq (.l 8) (.l 0), (some (.l 9, true))⟩, q (.pick (.l 10) (.l 0) (bo false)), w 3 (.mv (.l 0))])
   (.ret [f,f,f,t]))) }
def k_mem_Mem_There : List Go.Tmp := [0, 1, 2, 6]
theorem c_mem_Mem_There : chkFun Go.Proofs.Tryz.prog (drawsOf Go.Proofs.Tryz.prog) k_mem_Mem_There Go.Proofs.Tryz.f208 a_mem_Mem_There = true := by kernel_rfl

/-- lockstep/word.Two -/
def a_word_Two : Fun := { np := 2, nslots := 3, keep := 0, raw := false, results := [(2, none)], body :=
   (.seq (.reg [w 2 (.mv (bo false))])
   (.seq (.reg [q (.mv (.s 0)), q (.bin .geq (.l 0) (i 1)), q (.mv (.l 0)), ⟨.loc, .mv (.s 0), (some (.l 0, true))⟩, ⟨.loc, .bin .leq (.l 0) (i 12), (some (.l 1, true))⟩, q (.pick (.l 2) (.l 0) (bo false)), q (.mv (.l 0)), ⟨.loc, .mv (.s 1), (some (.l 0, true))⟩, ⟨.loc, .call .cl (.c (.one (.fn F.word_May [] []))) [(.l 0)], (some (.l 1, true))⟩, q (.pick (.l 2) (.l 0) (bo false)), w 2 (.mv (.l 0))])
   (.ret [f,f,t]))) }
def k_word_Two : List Go.Tmp := [0, 1, 4]
theorem c_word_Two : chkFun Go.Proofs.Tryz.prog (drawsOf Go.Proofs.Tryz.prog) k_word_Two Go.Proofs.Tryz.f209 a_word_Two = true := by kernel_rfl

/-- lockstep/word.ways -/
def a_word_ways : Fun := { np := 1, nslots := 3, keep := 1, raw := true, results := [(2, some (some 13))], body :=
   (.seq (.reg [w 1 (.box 1 (.s 0)), w 2 (.al [.f (.lit .nilFunc), .f (.lit .nilFunc), .f (.lit .nilFunc), .f (.lit .nilFunc), .f (.lit .nilFunc), .f (.lit .nilFunc), .f (.lit .nilFunc), .f (.lit .nilFunc), .f (.lit .nilFunc), .f (.lit .nilFunc), .f (.lit .nilFunc), .f (.lit .nilFunc), .f (.lit .nilFunc)] [])])
   (.seq (.reg [q (.mkf F.word_ways_8 [] [(.s 1)]), q (.mkf F.word_ways_9 [] [(.s 1)]), q (.mkf F.word_ways_12 [] [(.s 1)]), q (.bld [.f (.lit .nilFunc), .f (.lit .nilFunc), .f (.lit .nilFunc), .f (.lit .nilFunc), .f (.lit .nilFunc), .f (.lit .nilFunc), .f (.lit .nilFunc), .f (.lit .nilFunc), .f (.lit .nilFunc), .f (.lit .nilFunc), .f (.lit .nilFunc), .f (.lit .nilFunc), .f (.lit .nilFunc)] [(1, 1, (.c (.one (.fn F.word_ways_1 [] [])))), (2, 1, (.c (.one (.fn F.word_ways_2 [] [])))), (3, 1, (.c (.one (.fn F.word_ways_3 [] [])))), (4, 1, (.c (.one (.fn F.word_ways_4 [] [])))), (5, 1, (.c (.one (.fn F.word_ways_5 [] [])))), (6, 1, (.c (.one (.fn F.word_ways_6 [] [])))), (7, 1, (.c (.one (.fn F.word_ways_7 [] [])))), (8, 1, (.l 2)), (9, 1, (.l 1)), (10, 1, (.c (.one (.fn F.word_ways_10 [] [])))), (11, 1, (.c (.one (.fn F.word_ways_11 [] [])))), (12, 1, (.l 0))] []), e (.st 13 (.s 2) (.l 0))])
   (.ret [f,f,t]))) }
def k_word_ways : List Go.Tmp := [0, 1, 2]
theorem c_word_ways : chkFun Go.Proofs.Tryz.prog (drawsOf Go.Proofs.Tryz.prog) k_word_ways Go.Proofs.Tryz.f210 a_word_ways = true := by kernel_rfl

def slices_IndexFunc_sint_b0 : Go.A.Code :=
   (.seq (.reg [w 6 (.bin .lss (.s 5) (.s 4))])
   (.seq (.cond (.s 6) .skip
   (.exit 0 [f,f,f,f,f,f,f,f] 0))
   (.seq (.block 1 (.seq (.reg [q (.mv (.s 5)), w 3 (.mv (.l 0))])
   (.seq (.reg [q (.mv (.s 1)), q (.mv (.s 0)), q (.mv (.s 3)), q (.ia 1 (.l 1) (.l 0)), q (.ld none (.l 0)), w 7 (.call .op (.l 4) [(.l 0)])])
   (.cond (.s 7) (.seq (.reg [q (.mv (.s 3)), w 2 (.mv (.l 0))])
   (.ret [f,f,t,f,f,f,f,f]))
   .skip))))
   (.reg [q (.bin .add (.s 5) (i 1)), w 5 (.mv (.l 0))]))))
def slices_IndexFunc_sint_l0 : Go.A.Code := .loop [t,t,f,f,t,t,f,f] 0 slices_IndexFunc_sint_b0
theorem slices_IndexFunc_sint_l0_eq (T : Nat → Option Entry) (s : St) : exec T slices_IndexFunc_sint_l0 s = (exec T slices_IndexFunc_sint_b0 s).bind (loopK (exec T slices_IndexFunc_sint_l0) [t,t,f,f,t,t,f,f] 0) := exec_loop T s _ _ _
/-- slices.IndexFunc[[][]int,[]int] -/
def a_slices_IndexFunc_sint : Fun := { np := 2, nslots := 8, keep := 0, raw := false, results := [(2, none)], body :=
   (.seq (.reg [w 2 (.mv (i 0))])
   (.seq (.seq (.reg [q (.mv (.s 0)), w 4 (.len (.l 0)), w 5 (.mv (i 0))])
   (.block 0 slices_IndexFunc_sint_l0))
   (.seq (.reg [w 2 (.mv (i (-1)))])
   (.ret [f,f,t,f,f,f,f,f])))) }
def k_slices_IndexFunc_sint : List Go.Tmp := [0, 1, 4, 5, 7, 8, 9, 16]
theorem c_slices_IndexFunc_sint : chkFun Go.Proofs.Tryz.prog (drawsOf Go.Proofs.Tryz.prog) k_slices_IndexFunc_sint Go.Proofs.Tryz.f216 a_slices_IndexFunc_sint = true := by kernel_rfl

def slices_EqualFunc_sint_b0 : Go.A.Code :=
   (.seq (.reg [w 11 (.bin .lss (.s 10) (.s 9))])
   (.seq (.cond (.s 11) .skip
   (.exit 0 [f,f,f,f,f,f,f,f,f,f,f,f,f] 0))
   (.seq (.block 1 (.seq (.reg [q (.mv (.s 10)), q (.ia 1 (.s 8) (.s 10)), q (.ld none (.l 0)), w 4 (.mv (.l 2)), w 5 (.mv (.l 1))])
   (.seq (.reg [q (.mv (.s 1)), q (.mv (.s 4)), q (.ia 1 (.l 1) (.l 0)), q (.ld none (.l 0)), w 6 (.mv (.l 0))])
   (.seq (.reg [q (.mv (.s 2)), q (.mv (.s 5)), q (.mv (.s 6)), q (.call .op (.l 2) [(.l 1), (.l 0)]), w 12 (.un .not (.l 0))])
   (.cond (.s 12) (.seq (.reg [w 3 (.mv (bo false))])
   (.ret [f,f,f,t,f,f,f,f,f,f,f,f,f]))
   .skip)))))
   (.reg [q (.bin .add (.s 10) (i 1)), w 10 (.mv (.l 0))]))))
def slices_EqualFunc_sint_l0 : Go.A.Code := .loop [f,t,t,f,f,f,f,f,t,t,t,f,f] 0 slices_EqualFunc_sint_b0
theorem slices_EqualFunc_sint_l0_eq (T : Nat → Option Entry) (s : St) : exec T slices_EqualFunc_sint_l0 s = (exec T slices_EqualFunc_sint_b0 s).bind (loopK (exec T slices_EqualFunc_sint_l0) [f,t,t,f,f,f,f,f,t,t,t,f,f] 0) := exec_loop T s _ _ _
/-- slices.EqualFunc[[][]int,[][]int,[]int,[]int] -/
def a_slices_EqualFunc_sint : Fun := { np := 3, nslots := 13, keep := 0, raw := false, results := [(3, none)], body :=
   (.seq (.reg [w 3 (.mv (bo false))])
   (.seq (.seq (.reg [q (.mv (.s 0)), q (.len (.l 0)), q (.mv (.s 1)), q (.len (.l 0)), w 7 (.bin .neq (.l 2) (.l 0))])
   (.cond (.s 7) (.seq (.reg [w 3 (.mv (bo false))])
   (.ret [f,f,f,t,f,f,f,f,f,f,f,f,f]))
   .skip))
   (.seq (.seq (.reg [w 8 (.mv (.s 0)), w 9 (.len (.s 8)), w 10 (.mv (i 0))])
   (.block 0 slices_EqualFunc_sint_l0))
   (.seq (.reg [w 3 (.mv (bo true))])
   (.ret [f,f,f,t,f,f,f,f,f,f,f,f,f]))))) }
def k_slices_EqualFunc_sint : List Go.Tmp := [0, 1, 2, 6, 7, 8, 9, 14, 15, 16, 17, 18, 30]
theorem c_slices_EqualFunc_sint : chkFun Go.Proofs.Tryz.prog (drawsOf Go.Proofs.Tryz.prog) k_slices_EqualFunc_sint Go.Proofs.Tryz.f217 a_slices_EqualFunc_sint = true := by kernel_rfl

/-- math/bits.Mul32 -/
def a_bits_Mul32 : Fun := { np := 2, nslots := 5, keep := 0, raw := false, results := [(2, none), (3, none)], body :=
   (.seq (.reg [w 2 (.mv (ik .u32 0)), w 3 (.mv (ik .u32 0))])
   (.seq (.reg [q (.mv (.s 0)), q (.conv .u64 (.l 0)), q (.mv (.s 1)), q (.conv .u64 (.l 0)), q (.bin .mul (.l 2) (.l 0)), w 4 (.mv (.l 0))])
   (.seq (.reg [q (.mv (.s 4)), q (.bin .shr (.l 0) (ik .u64 32)), q (.conv .u32 (.l 0)), q (.mv (.s 4)), q (.conv .u32 (.l 0)), w 2 (.mv (.l 2)), w 3 (.mv (.l 1))])
   (.ret [f,f,t,t,f])))) }
def k_bits_Mul32 : List Go.Tmp := [0, 1, 4, 5, 6]
theorem c_bits_Mul32 : chkFun Go.Proofs.Tryz.prog (drawsOf Go.Proofs.Tryz.prog) k_bits_Mul32 Go.Proofs.Tryz.f218 a_bits_Mul32 = true := by kernel_rfl

/-- math/bits.Mul64 -/
def a_bits_Mul64 : Fun := { np := 2, nslots := 12, keep := 0, raw := false, results := [(2, none), (3, none)], body :=
   (.seq (.reg [w 2 (.mv (ik .u64 0)), w 3 (.mv (ik .u64 0))])
   (.seq (.reg [q (.mv (.s 0)), q (.bin .and (.l 0) (ik .u64 4294967295)), w 4 (.mv (.l 0))])
   (.seq (.reg [q (.mv (.s 0)), q (.bin .shr (.l 0) (ik .u64 32)), w 5 (.mv (.l 0))])
   (.seq (.reg [q (.mv (.s 1)), q (.bin .and (.l 0) (ik .u64 4294967295)), w 6 (.mv (.l 0))])
   (.seq (.reg [q (.mv (.s 1)), q (.bin .shr (.l 0) (ik .u64 32)), w 7 (.mv (.l 0))])
   (.seq (.reg [q (.mv (.s 4)), q (.mv (.s 6)), q (.bin .mul (.l 1) (.l 0)), w 8 (.mv (.l 0))])
   (.seq (.reg [q (.mv (.s 5)), q (.mv (.s 6)), q (.bin .mul (.l 1) (.l 0)), q (.mv (.s 8)), q (.bin .shr (.l 0) (ik .u64 32)), q (.bin .add (.l 2) (.l 0)), w 9 (.mv (.l 0))])
   (.seq (.reg [q (.mv (.s 9)), q (.bin .and (.l 0) (ik .u64 4294967295)), w 10 (.mv (.l 0))])
   (.seq (.reg [q (.mv (.s 9)), q (.bin .shr (.l 0) (ik .u64 32)), w 11 (.mv (.l 0))])
   (.seq (.reg [q (.mv (.s 10)), q (.mv (.s 4)), q (.mv (.s 7)), q (.bin .mul (.l 1) (.l 0)), q (.bin .add (.l 3) (.l 0)), w 10 (.mv (.l 0))])
   (.seq (.reg [q (.mv (.s 5)), q (.mv (.s 7)), q (.bin .mul (.l 1) (.l 0)), q (.mv (.s 11)), q (.bin .add (.l 1) (.l 0)), q (.mv (.s 10)), q (.bin .shr (.l 0) (ik .u64 32)), q (.bin .add (.l 2) (.l 0)), w 2 (.mv (.l 0))])
   (.seq (.reg [q (.mv (.s 0)), q (.mv (.s 1)), q (.bin .mul (.l 1) (.l 0)), w 3 (.mv (.l 0))])
   (.ret [f,f,t,t,f,f,f,f,f,f,f,f]))))))))))))) }
def k_bits_Mul64 : List Go.Tmp := [0, 1, 4, 5, 6, 7, 8, 9, 10, 11, 12, 13]
theorem c_bits_Mul64 : chkFun Go.Proofs.Tryz.prog (drawsOf Go.Proofs.Tryz.prog) k_bits_Mul64 Go.Proofs.Tryz.f219 a_bits_Mul64 = true := by kernel_rfl

/-- lockstep/kind.row -/
def a_kind_row : Fun := { np := 1, nslots := 2, keep := 0, raw := false, results := [(1, none)], body :=
   (.seq (.reg [w 1 (.mv (.c (.one (.f (.sl [])))))])
   (.seq (.reg [q (.mv (.s 0)), w 1 (.mv (.l 0))])
   (.ret [f,t]))) }
def k_kind_row : List Go.Tmp := [0, 2]
theorem c_kind_row : chkFun Go.Proofs.Tryz.prog (drawsOf Go.Proofs.Tryz.prog) k_kind_row Go.Proofs.Tryz.f220 a_kind_row = true := by kernel_rfl

def slices_Repeat_2int_b0 : Go.A.Code :=
   (.seq (.seq (.reg [q (.mv (.s 6)), q (.mv (.s 5)), q (.len (.l 0)), w 9 (.bin .lss (.l 2) (.l 0))])
   (.cond (.s 9) .skip
   (.exit 0 [f,f,f,f,f,t,f,f,f,f] 1)))
   (.block 1 (.reg [q (.mv (.s 6)), q (.mv (.s 5)), q (.mv (.s 6)), q (.slc 2 (.l 1) (some (.l 0)) none none), q (.mv (.s 5)), q (.mv (.s 6)), q (.slc 2 (.l 1) none (some (.l 0)) none), q (.cpy 2 (.l 3) (.l 0)), q (.bin .add (.l 7) (.l 0)), w 6 (.mv (.l 0))])))
def slices_Repeat_2int_l0 : Go.A.Code := .loop [f,f,f,f,f,t,t,f,f,f] 1 slices_Repeat_2int_b0
theorem slices_Repeat_2int_l0_eq (T : Nat → Option Entry) (s : St) : exec T slices_Repeat_2int_l0 s = (exec T slices_Repeat_2int_b0 s).bind (loopK (exec T slices_Repeat_2int_l0) [f,f,f,f,f,t,t,f,f,f] 1) := exec_loop T s _ _ _
/-- slices.Repeat[[][2]int,[2]int] -/
def a_slices_Repeat_2int : Fun := { np := 2, nslots := 10, keep := 0, raw := false, results := [(2, none)], body :=
   (.seq (.reg [w 2 (.mv (.c (.one (.f (.sl [])))))])
   (.seq (.seq (.reg [q (.mv (.s 1)), w 7 (.bin .lss (.l 0) (i 0))])
   (.cond (.s 7) (.reg [q (.no ""), e (.no "")])
   .skip))
   (.seq (.reg [q (.mv (.s 0)), q (.len (.l 0)), q (.conv .u64 (.l 0)), q (.mv (.s 1)), q (.conv .u64 (.l 0)), q (.call .cl (.c (.one (.fn F.bits_Mul [] []))) [(.l 2), (.l 0)]), q (.mv (.l 0)), q (.ext (.l 0) 0), q (.ext (.l 1) 1), w 3 (.mv (.l 1)), w 4 (.mv (.l 1))])
   (.seq (.seq (.reg [q (.mv (.s 3)), q (.bin .gtr (.l 0) (ik .u64 0)), q (.mv (.l 0)), ⟨.loc, .mv (.s 4), (some (.l 0, false))⟩, ⟨.loc, .bin .gtr (.l 0) (ik .u64 9223372036854775807), (some (.l 1, false))⟩, w 8 (.pick (.l 2) (bo true) (.l 0))])
   (.cond (.s 8) (.reg [q (.no ""), e (.no "")])
   .skip))
   (.seq (.reg [q (.mv (.s 4)), q (.conv .i64 (.l 0)), q (.mks [.f (.lit (.int .i64 0)), .f (.lit (.int .i64 0))] none (.l 0)), w 5 (.mv (.l 0))])
   (.seq (.reg [q (.mv (.s 5)), q (.mv (.s 0)), q (.cpy 2 (.l 1) (.l 0)), w 6 (.mv (.l 0))])
   (.seq (.block 0 slices_Repeat_2int_l0)
   (.seq (.reg [q (.mv (.s 5)), w 2 (.mv (.l 0))])
   (.ret [f,f,t,f,f,f,f,f,f,f]))))))))) }
def k_slices_Repeat_2int : List Go.Tmp := [0, 1, 4, 5, 6, 7, 8, 10, 26, 37]
theorem c_slices_Repeat_2int : chkFun Go.Proofs.Tryz.prog (drawsOf Go.Proofs.Tryz.prog) k_slices_Repeat_2int Go.Proofs.Tryz.f221 a_slices_Repeat_2int = true := by kernel_rfl

/-- lockstep/word.ways$1 -/
def a_word_ways_1 : Fun := { np := 2, nslots := 3, keep := 0, raw := false, results := [(2, none)], body :=
   (.seq (.reg [w 2 (.mv (ik .u64 0))])
   (.seq (.reg [q (.mv (.s 0)), q (.mv (.s 1)), q (.bin .add (.l 1) (.l 0)), w 2 (.mv (.l 0))])
   (.ret [f,f,t]))) }
def k_word_ways_1 : List Go.Tmp := [0, 1, 4]
theorem c_word_ways_1 : chkFun Go.Proofs.Tryz.prog (drawsOf Go.Proofs.Tryz.prog) k_word_ways_1 Go.Proofs.Tryz.f222 a_word_ways_1 = true := by kernel_rfl

/-- lockstep/word.ways$2 -/
def a_word_ways_2 : Fun := { np := 2, nslots := 3, keep := 0, raw := false, results := [(2, none)], body :=
   (.seq (.reg [w 2 (.mv (ik .u64 0))])
   (.seq (.reg [q (.mv (.s 0)), q (.mv (.s 1)), q (.bin .sub (.l 1) (.l 0)), w 2 (.mv (.l 0))])
   (.ret [f,f,t]))) }
def k_word_ways_2 : List Go.Tmp := [0, 1, 4]
theorem c_word_ways_2 : chkFun Go.Proofs.Tryz.prog (drawsOf Go.Proofs.Tryz.prog) k_word_ways_2 Go.Proofs.Tryz.f223 a_word_ways_2 = true := by kernel_rfl

/-- lockstep/word.ways$3 -/
def a_word_ways_3 : Fun := { np := 2, nslots := 3, keep := 0, raw := false, results := [(2, none)], body :=
   (.seq (.reg [w 2 (.mv (ik .u64 0))])
   (.seq (.reg [q (.mv (.s 0)), q (.mv (.s 1)), q (.bin .mul (.l 1) (.l 0)), w 2 (.mv (.l 0))])
   (.ret [f,f,t]))) }
def k_word_ways_3 : List Go.Tmp := [0, 1, 4]
theorem c_word_ways_3 : chkFun Go.Proofs.Tryz.prog (drawsOf Go.Proofs.Tryz.prog) k_word_ways_3 Go.Proofs.Tryz.f224 a_word_ways_3 = true := by kernel_rfl

/-- lockstep/word.ways$4 -/
def a_word_ways_4 : Fun := { np := 2, nslots := 3, keep := 0, raw := false, results := [(2, none)], body :=
   (.seq (.reg [w 2 (.mv (ik .u64 0))])
   (.seq (.reg [q (.mv (.s 0)), q (.mv (.s 1)), q (.bin .quo (.l 1) (.l 0)), w 2 (.mv (.l 0))])
   (.ret [f,f,t]))) }
def k_word_ways_4 : List Go.Tmp := [0, 1, 4]
theorem c_word_ways_4 : chkFun Go.Proofs.Tryz.prog (drawsOf Go.Proofs.Tryz.prog) k_word_ways_4 Go.Proofs.Tryz.f225 a_word_ways_4 = true := by kernel_rfl

/-- lockstep/word.ways$5 -/
def a_word_ways_5 : Fun := { np := 2, nslots := 3, keep := 0, raw := false, results := [(2, none)], body :=
   (.seq (.reg [w 2 (.mv (ik .u64 0))])
   (.seq (.reg [q (.mv (.s 0)), q (.mv (.s 1)), q (.bin .and (.l 1) (.l 0)), w 2 (.mv (.l 0))])
   (.ret [f,f,t]))) }
def k_word_ways_5 : List Go.Tmp := [0, 1, 4]
theorem c_word_ways_5 : chkFun Go.Proofs.Tryz.prog (drawsOf Go.Proofs.Tryz.prog) k_word_ways_5 Go.Proofs.Tryz.f226 a_word_ways_5 = true := by kernel_rfl

/-- lockstep/word.ways$6 -/
def a_word_ways_6 : Fun := { np := 2, nslots := 3, keep := 0, raw := false, results := [(2, none)], body :=
   (.seq (.reg [w 2 (.mv (ik .u64 0))])
   (.seq (.reg [q (.mv (.s 0)), q (.mv (.s 1)), q (.bin .or (.l 1) (.l 0)), w 2 (.mv (.l 0))])
   (.ret [f,f,t]))) }
def k_word_ways_6 : List Go.Tmp := [0, 1, 4]
theorem c_word_ways_6 : chkFun Go.Proofs.Tryz.prog (drawsOf Go.Proofs.Tryz.prog) k_word_ways_6 Go.Proofs.Tryz.f227 a_word_ways_6 = true := by kernel_rfl

/-- lockstep/word.ways$7 -/
def a_word_ways_7 : Fun := { np := 2, nslots := 3, keep := 0, raw := false, results := [(2, none)], body :=
   (.seq (.reg [w 2 (.mv (ik .u64 0))])
   (.seq (.reg [q (.mv (.s 0)), q (.mv (.s 1)), q (.bin .xor (.l 1) (.l 0)), w 2 (.mv (.l 0))])
   (.ret [f,f,t]))) }
def k_word_ways_7 : List Go.Tmp := [0, 1, 4]
theorem c_word_ways_7 : chkFun Go.Proofs.Tryz.prog (drawsOf Go.Proofs.Tryz.prog) k_word_ways_7 Go.Proofs.Tryz.f228 a_word_ways_7 = true := by kernel_rfl

/-- lockstep/word.ways$8 -/
def a_word_ways_8 : Fun := { np := 3, nslots := 4, keep := 0, raw := false, results := [(3, none)], body :=
   (.seq (.reg [w 3 (.mv (ik .u64 0))])
   (.seq (.reg [q (.mv (.s 1)), q (.ld none (.s 2)), q (.conv .u64 (.l 0)), q (.bin .lss (.l 2) (.l 0)), q (.call .cl (.c (.one (.fn F.word_one [] []))) [(.l 0)]), q (.mv (.s 0)), q (.mv (.s 1)), q (.bin .and (.l 0) (ik .u64 63)), q (.bin .shl (.l 2) (.l 0)), q (.bin .mul (.l 4) (.l 0)), w 3 (.mv (.l 0))])
   (.ret [f,f,f,t]))) }
def k_word_ways_8 : List Go.Tmp := [0, 1, 2, 5]
theorem c_word_ways_8 : chkFun Go.Proofs.Tryz.prog (drawsOf Go.Proofs.Tryz.prog) k_word_ways_8 Go.Proofs.Tryz.f229 a_word_ways_8 = true := by kernel_rfl

/-- lockstep/word.one -/
def a_word_one : Fun := { np := 1, nslots := 3, keep := 0, raw := false, results := [(1, none)], body :=
   (.seq (.reg [w 1 (.mv (ik .u64 0))])
   (.seq (.seq (.reg [w 2 (.mv (.s 0))])
   (.cond (.s 2) (.seq (.reg [w 1 (.mv (ik .u64 1))])
   (.ret [f,t,f]))
   .skip))
   (.seq (.reg [w 1 (.mv (ik .u64 0))])
   (.ret [f,t,f])))) }
def k_word_one : List Go.Tmp := [0, 2, 3]
theorem c_word_one : chkFun Go.Proofs.Tryz.prog (drawsOf Go.Proofs.Tryz.prog) k_word_one Go.Proofs.Tryz.f230 a_word_one = true := by kernel_rfl

/-- lockstep/word.ways$9 -/
def a_word_ways_9 : Fun := { np := 3, nslots := 4, keep := 0, raw := false, results := [(3, none)], body :=
   (.seq (.reg [w 3 (.mv (ik .u64 0))])
   (.seq (.reg [q (.mv (.s 1)), q (.ld none (.s 2)), q (.conv .u64 (.l 0)), q (.bin .lss (.l 2) (.l 0)), q (.call .cl (.c (.one (.fn F.word_one [] []))) [(.l 0)]), q (.mv (.s 0)), q (.mv (.s 1)), q (.bin .and (.l 0) (ik .u64 63)), q (.bin .shr (.l 2) (.l 0)), q (.bin .mul (.l 4) (.l 0)), w 3 (.mv (.l 0))])
   (.ret [f,f,f,t]))) }
def k_word_ways_9 : List Go.Tmp := [0, 1, 2, 5]
theorem c_word_ways_9 : chkFun Go.Proofs.Tryz.prog (drawsOf Go.Proofs.Tryz.prog) k_word_ways_9 Go.Proofs.Tryz.f231 a_word_ways_9 = true := by kernel_rfl

/-- lockstep/word.ways$10 -/
def a_word_ways_10 : Fun := { np := 2, nslots := 3, keep := 0, raw := false, results := [(2, none)], body :=
   (.seq (.reg [w 2 (.mv (ik .u64 0))])
   (.seq (.reg [q (.mv (.s 0)), q (.mv (.s 1)), q (.bin .eql (.l 1) (.l 0)), q (.call .cl (.c (.one (.fn F.word_one [] []))) [(.l 0)]), w 2 (.mv (.l 0))])
   (.ret [f,f,t]))) }
def k_word_ways_10 : List Go.Tmp := [0, 1, 4]
theorem c_word_ways_10 : chkFun Go.Proofs.Tryz.prog (drawsOf Go.Proofs.Tryz.prog) k_word_ways_10 Go.Proofs.Tryz.f232 a_word_ways_10 = true := by kernel_rfl

/-- lockstep/word.ways$11 -/
def a_word_ways_11 : Fun := { np := 2, nslots := 3, keep := 0, raw := false, results := [(2, none)], body :=
   (.seq (.reg [w 2 (.mv (ik .u64 0))])
   (.seq (.reg [q (.mv (.s 0)), q (.mv (.s 1)), q (.bin .lss (.l 1) (.l 0)), q (.call .cl (.c (.one (.fn F.word_one [] []))) [(.l 0)]), w 2 (.mv (.l 0))])
   (.ret [f,f,t]))) }
def k_word_ways_11 : List Go.Tmp := [0, 1, 4]
theorem c_word_ways_11 : chkFun Go.Proofs.Tryz.prog (drawsOf Go.Proofs.Tryz.prog) k_word_ways_11 Go.Proofs.Tryz.f233 a_word_ways_11 = true := by kernel_rfl

/-- lockstep/word.ways$12 -/
def a_word_ways_12 : Fun := { np := 3, nslots := 4, keep := 0, raw := false, results := [(3, none)], body :=
   (.seq (.reg [w 3 (.mv (ik .u64 0))])
   (.seq (.reg [q (.mv (.s 0)), q (.ld none (.s 2)), q (.call .cl (.c (.one (.fn F.word_Signed [] []))) [(.l 1), (.l 0)]), q (.mv (.s 1)), q (.ld none (.s 2)), q (.call .cl (.c (.one (.fn F.word_Signed [] []))) [(.l 1), (.l 0)]), q (.bin .lss (.l 3) (.l 0)), q (.call .cl (.c (.one (.fn F.word_one [] []))) [(.l 0)]), w 3 (.mv (.l 0))])
   (.ret [f,f,f,t]))) }
def k_word_ways_12 : List Go.Tmp := [0, 1, 2, 5]
theorem c_word_ways_12 : chkFun Go.Proofs.Tryz.prog (drawsOf Go.Proofs.Tryz.prog) k_word_ways_12 Go.Proofs.Tryz.f234 a_word_ways_12 = true := by kernel_rfl

/-- lockstep/word.Signed -/
def a_word_Signed : Fun := { np := 2, nslots := 4, keep := 0, raw := false, results := [(2, none)], body :=
   (.seq (.reg [w 2 (.mv (i 0))])
   (.seq (.seq (.reg [q (.mv (.s 1)), q (.call .cl (.c (.one (.fn F.word_May [] []))) [(.l 0)]), w 3 (.un .not (.l 0))])
   (.cond (.s 3) (.seq (.reg [w 2 (.mv (i 0))])
   (.ret [f,f,t,f]))
   .skip))
   (.seq (.reg [q (.mv (.s 0)), q (.mv (.s 1)), q (.bin .sub (i 64) (.l 0)), q (.bin .shl (.l 2) (.l 0)), q (.conv .i64 (.l 0)), q (.mv (.s 1)), q (.bin .sub (i 64) (.l 0)), q (.bin .shr (.l 2) (.l 0)), w 2 (.mv (.l 0))])
   (.ret [f,f,t,f])))) }
def k_word_Signed : List Go.Tmp := [0, 1, 4, 7]
theorem c_word_Signed : chkFun Go.Proofs.Tryz.prog (drawsOf Go.Proofs.Tryz.prog) k_word_Signed Go.Proofs.Tryz.f235 a_word_Signed = true := by kernel_rfl

end AC
