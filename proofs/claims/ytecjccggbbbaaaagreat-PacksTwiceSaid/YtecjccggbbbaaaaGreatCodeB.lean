/- The machine's code of the functions that are reached, each with the kernel's check that it stands for the loaded one. Printed by a program. -/
import Derived.Test.YtecjccggbbbaaaaGreatCodeA
set_option linter.unusedVariables false
set_option linter.unusedSimpArgs false
namespace AC
open Go.A Go.A.Lex
def affine_May_b0 : Go.A.Code :=
   (.seq (.reg [w 8 (.bin .lss (.s 7) (.s 6))])
   (.seq (.cond (.s 8) .skip
   (.exit 0 [f,f,f,f,f,f,f,f,f,f] 1))
   (.seq (.block 1 (.seq (.reg [q (.ia 2 (.s 5) (.s 7)), q (.ld (some 2) (.l 0)), w 4 (.al [.f (.lit (.int .i64 0)), .f (.lit (.int .u64 0))] []), e (.st 2 (.s 4) (.l 1))])
   (.seq (.seq (.reg [q (.fa 0 (.s 4)), q (.ld none (.l 0)), q (.mv (.s 3)), q (.bin .leq (.l 1) (.l 0)), q (.mv (.l 0)), ⟨.loc, .fa 0 (.s 4), (some (.l 0, false))⟩, ⟨.loc, .ld none (.l 0), (some (.l 1, false))⟩, ⟨.loc, .bin .gtr (.l 0) (i 1023), (some (.l 2, false))⟩, q (.pick (.l 3) (bo true) (.l 0)), q (.mv (.l 0)), ⟨.loc, .fa 1 (.s 4), (some (.l 0, false))⟩, ⟨.loc, .ld none (.l 0), (some (.l 1, false))⟩, ⟨.loc, .bin .eql (.l 0) (ik .u64 0), (some (.l 2, false))⟩, w 9 (.pick (.l 3) (bo true) (.l 0))])
   (.cond (.s 9) (.seq (.reg [w 2 (.mv (bo false))])
   (.ret [f,f,t,f,f,f,f,f,f,f]))
   .skip))
   (.reg [q (.fa 0 (.s 4)), q (.ld none (.l 0)), w 3 (.mv (.l 0))]))))
   (.reg [q (.bin .add (.s 7) (i 1)), w 7 (.mv (.l 0))]))))
def affine_May_l0 : Go.A.Code := .loop [f,f,f,t,f,t,t,t,f,f] 1 affine_May_b0
theorem affine_May_l0_eq (T : Nat → Option Entry) (s : St) : exec T affine_May_l0 s = (exec T affine_May_b0 s).bind (loopK (exec T affine_May_l0) [f,f,f,t,f,t,t,t,f,f] 1) := exec_loop T s _ _ _
/-- lockstep/affine.May -/
def a_affine_May : Fun := { np := 1, nslots := 10, keep := 0, raw := false, results := [(2, none)], body :=
   (.seq (.reg [w 1 (.box 2 (.s 0)), w 2 (.mv (bo false))])
   (.seq (.reg [w 3 (.mv (i 0))])
   (.seq (.seq (.reg [q (.fa 0 (.s 1)), w 5 (.ld none (.l 0)), w 6 (.len (.s 5)), w 7 (.mv (i 0))])
   (.block 0 affine_May_l0))
   (.seq (.reg [w 2 (.mv (bo true))])
   (.ret [f,f,t,f,f,f,f,f,f,f]))))) }
def k_affine_May : List Go.Tmp := [0, 1, 2, 3, 5, 7, 8, 9, 10, 26]
theorem c_affine_May : chkFun Go.Proofs.Tryz.prog (drawsOf Go.Proofs.Tryz.prog) k_affine_May Go.Proofs.Tryz.f189 a_affine_May = true := by kernel_rfl

/-- lockstep/affine.Times$1 -/
def a_affine_Times_1 : Fun := { np := 3, nslots := 4, keep := 0, raw := false, results := [(3, none)], body :=
   (.seq (.reg [w 3 (.mv (ik .u64 0))])
   (.seq (.reg [q (.mv (.s 0)), q (.ld none (.s 2)), q (.bin .mul (.l 1) (.l 0)), w 3 (.mv (.l 0))])
   (.ret [f,f,f,t]))) }
def k_affine_Times_1 : List Go.Tmp := [0, 1, 2, 5]
theorem c_affine_Times_1 : chkFun Go.Proofs.Tryz.prog (drawsOf Go.Proofs.Tryz.prog) k_affine_Times_1 Go.Proofs.Tryz.f190 a_affine_Times_1 = true := by kernel_rfl

def slices_Values_int_int__1_b0 : Go.A.Code :=
   (.seq (.reg [w 6 (.bin .lss (.s 5) (.s 4))])
   (.seq (.cond (.s 6) .skip
   (.exit 0 [f,f,f,f,f,f,f,f] 0))
   (.seq (.block 1 (.seq (.reg [q (.ia 1 (.s 3) (.s 5)), q (.ld none (.l 0)), w 2 (.mv (.l 0))])
   (.seq (.reg [q (.mv (.s 0)), q (.mv (.s 2)), q (.call .op (.l 1) [(.l 0)]), w 7 (.un .not (.l 0))])
   (.cond (.s 7) (.ret [f,f,f,f,f,f,f,f])
   .skip))))
   (.reg [q (.bin .add (.s 5) (i 1)), w 5 (.mv (.l 0))]))))
def slices_Values_int_int__1_l0 : Go.A.Code := .loop [t,f,f,t,t,t,f,f] 0 slices_Values_int_int__1_b0
theorem slices_Values_int_int__1_l0_eq (T : Nat → Option Entry) (s : St) : exec T slices_Values_int_int__1_l0 s = (exec T slices_Values_int_int__1_b0 s).bind (loopK (exec T slices_Values_int_int__1_l0) [t,f,f,t,t,t,f,f] 0) := exec_loop T s _ _ _
/-- slices.Values[[]int,int]$1 -/
def a_slices_Values_int_int__1 : Fun := { np := 2, nslots := 8, keep := 0, raw := false, results := [], body :=
   (.seq (.reg [w 3 (.ld none (.s 1)), w 4 (.len (.s 3)), w 5 (.mv (i 0))])
   (.block 0 slices_Values_int_int__1_l0)) }
def k_slices_Values_int_int__1 : List Go.Tmp := [0, 1, 4, 5, 6, 7, 8, 14]
theorem c_slices_Values_int_int__1 : chkFun Go.Proofs.Tryz.prog (drawsOf Go.Proofs.Tryz.prog) k_slices_Values_int_int__1 Go.Proofs.Tryz.f193 a_slices_Values_int_int__1 = true := by kernel_rfl

/-- slices.ContainsFunc[[][]int,[]int] -/
def a_slices_ContainsFunc_sint : Fun := { np := 2, nslots := 3, keep := 0, raw := false, results := [(2, none)], body :=
   (.seq (.reg [w 2 (.mv (bo false))])
   (.seq (.reg [q (.mv (.s 0)), q (.mv (.s 1)), q (.call .op (.c (.one (.fn F.slices_IndexFunc_sint [] []))) [(.l 1), (.l 0)]), q (.bin .geq (.l 0) (i 0)), w 2 (.mv (.l 0))])
   (.ret [f,f,t]))) }
def k_slices_ContainsFunc_sint : List Go.Tmp := [0, 1, 4]
theorem c_slices_ContainsFunc_sint : chkFun Go.Proofs.Tryz.prog (drawsOf Go.Proofs.Tryz.prog) k_slices_ContainsFunc_sint Go.Proofs.Tryz.f194 a_slices_ContainsFunc_sint = true := by kernel_rfl

/-- lockstep/graph.Make$1 -/
def a_graph_Make_1 : Fun := { np := 2, nslots := 3, keep := 0, raw := false, results := [(2, none)], body :=
   (.seq (.reg [w 2 (.mv (bo false))])
   (.seq (.reg [q (.mv (.s 0)), q (.ld none (.s 1)), q (.call .cl (.c (.one (.fn F.graph_rising [] []))) [(.l 1), (.l 0)]), q (.un .not (.l 0)), w 2 (.mv (.l 0))])
   (.ret [f,f,t]))) }
def k_graph_Make_1 : List Go.Tmp := [0, 1, 3]
theorem c_graph_Make_1 : chkFun Go.Proofs.Tryz.prog (drawsOf Go.Proofs.Tryz.prog) k_graph_Make_1 Go.Proofs.Tryz.f195 a_graph_Make_1 = true := by kernel_rfl

def graph_rising_b0 : Go.A.Code :=
   (.seq (.reg [w 8 (.bin .lss (.s 7) (.s 6))])
   (.seq (.cond (.s 8) .skip
   (.exit 0 [f,f,f,f,f,f,f,f,f,f] 0))
   (.seq (.block 1 (.seq (.reg [q (.ia 1 (.s 5) (.s 7)), q (.ld none (.l 0)), w 4 (.mv (.l 0))])
   (.seq (.seq (.reg [q (.mv (.s 4)), q (.mv (.s 3)), q (.bin .leq (.l 1) (.l 0)), q (.mv (.l 0)), ⟨.loc, .mv (.s 4), (some (.l 0, false))⟩, ⟨.loc, .mv (.s 1), (some (.l 1, false))⟩, ⟨.loc, .bin .geq (.l 1) (.l 0), (some (.l 2, false))⟩, w 9 (.pick (.l 3) (bo true) (.l 0))])
   (.cond (.s 9) (.seq (.reg [w 2 (.mv (bo false))])
   (.ret [f,f,t,f,f,f,f,f,f,f]))
   .skip))
   (.reg [q (.mv (.s 4)), w 3 (.mv (.l 0))]))))
   (.reg [q (.bin .add (.s 7) (i 1)), w 7 (.mv (.l 0))]))))
def graph_rising_l0 : Go.A.Code := .loop [f,t,f,t,f,t,t,t,f,f] 0 graph_rising_b0
theorem graph_rising_l0_eq (T : Nat → Option Entry) (s : St) : exec T graph_rising_l0 s = (exec T graph_rising_b0 s).bind (loopK (exec T graph_rising_l0) [f,t,f,t,f,t,t,t,f,f] 0) := exec_loop T s _ _ _
/-- lockstep/graph.rising -/
def a_graph_rising : Fun := { np := 2, nslots := 10, keep := 0, raw := false, results := [(2, none)], body :=
   (.seq (.reg [w 2 (.mv (bo false))])
   (.seq (.reg [w 3 (.mv (i (-1)))])
   (.seq (.seq (.reg [w 5 (.mv (.s 0)), w 6 (.len (.s 5)), w 7 (.mv (i 0))])
   (.block 0 graph_rising_l0))
   (.seq (.reg [w 2 (.mv (bo true))])
   (.ret [f,f,t,f,f,f,f,f,f,f]))))) }
def k_graph_rising : List Go.Tmp := [0, 1, 4, 5, 7, 8, 9, 10, 11, 21]
theorem c_graph_rising : chkFun Go.Proofs.Tryz.prog (drawsOf Go.Proofs.Tryz.prog) k_graph_rising Go.Proofs.Tryz.f196 a_graph_rising = true := by kernel_rfl

def graph_preds_b0 : Go.A.Code :=
   (.seq (.reg [w 13 (.bin .lss (.s 12) (.s 11))])
   (.seq (.cond (.s 13) .skip
   (.exit 2 [f,f,t,f,f,f,t,t,t,f,f,f,f,f] 2))
   (.seq (.block 3 (.seq (.reg [q (.ia 1 (.s 10) (.s 12)), q (.ld none (.l 0)), w 5 (.mv (.l 0))])
   (.reg [q (.mv (.s 2)), q (.mv (.s 5)), q (.mv (.s 2)), q (.mv (.s 5)), q (.ia 1 (.l 1) (.l 0)), q (.ld none (.l 0)), q (.mv (.s 3)), q (.bsl .fz 1 [[.f (.lit (.int .i64 0))]] [(0, (.l 0))]), q (.app 1 (.l 2) (.l 0)), q (.ia 1 (.l 8) (.l 7)), e (.st 1 (.l 0) (.l 1))])))
   (.reg [q (.bin .add (.s 12) (i 1)), w 12 (.mv (.l 0))]))))
def graph_preds_l0 : Go.A.Code := .loop [f,f,t,t,f,f,t,t,t,f,t,t,t,f] 2 graph_preds_b0
theorem graph_preds_l0_eq (T : Nat → Option Entry) (s : St) : exec T graph_preds_l0 s = (exec T graph_preds_b0 s).bind (loopK (exec T graph_preds_l0) [f,f,t,t,f,f,t,t,t,f,t,t,t,f] 2) := exec_loop T s _ _ _
def graph_preds_b1 : Go.A.Code :=
   (.seq (.reg [w 9 (.bin .lss (.s 8) (.s 7))])
   (.seq (.cond (.s 9) .skip
   (.exit 0 [f,f,t,f,f,f,f,f,f,f,f,f,f,f] 2))
   (.seq (.block 1 (.seq (.reg [q (.mv (.s 8)), q (.ia 1 (.s 6) (.s 8)), q (.ld none (.l 0)), w 3 (.mv (.l 2)), w 4 (.mv (.l 1))])
   (.seq (.reg [w 10 (.mv (.s 4)), w 11 (.len (.s 10)), w 12 (.mv (i 0))])
   (.block 2 graph_preds_l0))))
   (.reg [q (.bin .add (.s 8) (i 1)), w 8 (.mv (.l 0))]))))
def graph_preds_l1 : Go.A.Code := .loop [f,f,t,f,f,f,t,t,t,f,f,f,f,f] 2 graph_preds_b1
theorem graph_preds_l1_eq (T : Nat → Option Entry) (s : St) : exec T graph_preds_l1 s = (exec T graph_preds_b1 s).bind (loopK (exec T graph_preds_l1) [f,f,t,f,f,f,t,t,t,f,f,f,f,f] 2) := exec_loop T s _ _ _
/-- lockstep/graph.preds -/
def a_graph_preds : Fun := { np := 1, nslots := 14, keep := 0, raw := false, results := [(1, none)], body :=
   (.seq (.reg [w 1 (.mv (.c (.one (.f (.sl [])))))])
   (.seq (.reg [q (.mv (.s 0)), q (.len (.l 0)), q (.mks [.f (.sl [])] (some (0, 1)) (.l 0)), w 2 (.mv (.l 0))])
   (.seq (.seq (.reg [w 6 (.mv (.s 0)), w 7 (.len (.s 6)), w 8 (.mv (i 0))])
   (.block 0 graph_preds_l1))
   (.seq (.reg [q (.mv (.s 2)), w 1 (.mv (.l 0))])
   (.ret [f,t,f,f,f,f,f,f,f,f,f,f,f,f]))))) }
def k_graph_preds : List Go.Tmp := [0, 2, 3, 4, 5, 7, 11, 12, 13, 14, 18, 19, 20, 21]
theorem c_graph_preds : chkFun Go.Proofs.Tryz.prog (drawsOf Go.Proofs.Tryz.prog) k_graph_preds Go.Proofs.Tryz.f197 a_graph_preds = true := by kernel_rfl

/-- lockstep/graph.May -/
def a_graph_May : Fun := { np := 1, nslots := 5, keep := 0, raw := false, results := [(2, none)], body :=
   (.seq (.reg [w 1 (.box 2 (.s 0)), w 2 (.mv (bo false))])
   (.seq (.reg [q (.fa 0 (.s 1)), q (.ld none (.l 0)), q (.call .cl (.c (.one (.fn F.graph_Make [] []))) [(.l 0)]), q (.mv (.l 0)), q (.ext (.l 0) 0), q (.ext (.l 1) 1), w 3 (.al [.f (.sl []), .f (.sl [])] []), e (.st 2 (.s 3) (.l 2)), w 4 (.mv (.l 2))])
   (.seq (.reg [q (.mv (.s 4)), q (.bin .eql (.l 0) (i 0)), q (.mv (.l 0)), ⟨.loc, .fa 1 (.s 3), (some (.l 0, true))⟩, ⟨.loc, .ld none (.l 0), (some (.l 1, true))⟩, ⟨.loc, .fa 1 (.s 1), (some (.l 2, true))⟩, ⟨.loc, .ld none (.l 0), (some (.l 3, true))⟩, ⟨.loc, .call .op (.c (.one (.fn F.slices_EqualFunc_sint [] []))) [(.l 2), (.l 0), (.c (.one (.fn F.slices_Equal_int [] [])))], (some (.l 4, true))⟩, q (.pick (.l 5) (.l 0) (bo false)), w 2 (.mv (.l 0))])
   (.ret [f,f,t,f,f])))) }
def k_graph_May : List Go.Tmp := [0, 1, 2, 3, 4]
theorem c_graph_May : chkFun Go.Proofs.Tryz.prog (drawsOf Go.Proofs.Tryz.prog) k_graph_May Go.Proofs.Tryz.f198 a_graph_May = true := by kernel_rfl

def slices_Reverse_int_b0 : Go.A.Code :=
   (.seq (.seq (.reg [q (.mv (.s 1)), q (.mv (.s 2)), w 3 (.bin .lss (.l 1) (.l 0))])
   (.cond (.s 3) .skip
   (.exit 0 [f,f,f,f] 0)))
   (.seq (.block 1 (.reg [q (.mv (.s 0)), q (.mv (.s 1)), q (.mv (.s 0)), q (.mv (.s 2)), q (.mv (.s 0)), q (.mv (.s 2)), q (.ia 1 (.l 1) (.l 0)), q (.ld none (.l 0)), q (.mv (.s 0)), q (.mv (.s 1)), q (.ia 1 (.l 1) (.l 0)), q (.ld none (.l 0)), q (.ia 1 (.l 11) (.l 10)), e (.st 1 (.l 0) (.l 5)), q (.ia 1 (.l 11) (.l 10)), e (.st 1 (.l 0) (.l 3))]))
   (.reg [q (.mv (.s 1)), q (.bin .add (.l 0) (i 1)), q (.mv (.s 2)), q (.bin .sub (.l 0) (i 1)), w 1 (.mv (.l 2)), w 2 (.mv (.l 1))])))
def slices_Reverse_int_l0 : Go.A.Code := .loop [t,t,t,f] 0 slices_Reverse_int_b0
theorem slices_Reverse_int_l0_eq (T : Nat → Option Entry) (s : St) : exec T slices_Reverse_int_l0 s = (exec T slices_Reverse_int_b0 s).bind (loopK (exec T slices_Reverse_int_l0) [t,t,t,f] 0) := exec_loop T s _ _ _
/-- slices.Reverse[[]int,int] -/
def a_slices_Reverse_int : Fun := { np := 1, nslots := 4, keep := 0, raw := false, results := [], body :=
   (.seq (.reg [q (.mv (.s 0)), q (.len (.l 0)), q (.bin .sub (.l 0) (i 1)), w 1 (.mv (i 0)), w 2 (.mv (.l 1))])
   (.block 0 slices_Reverse_int_l0)) }
def k_slices_Reverse_int : List Go.Tmp := [0, 2, 3, 9]
theorem c_slices_Reverse_int : chkFun Go.Proofs.Tryz.prog (drawsOf Go.Proofs.Tryz.prog) k_slices_Reverse_int Go.Proofs.Tryz.f199 a_slices_Reverse_int = true := by kernel_rfl

/-- math/bits.Mul -/
def a_bits_Mul : Fun := { np := 2, nslots := 8, keep := 0, raw := false, results := [(2, none), (3, none)], body :=
   (.seq (.reg [w 2 (.mv (ik .u64 0)), w 3 (.mv (ik .u64 0))])
   (.seq (.cond (bo false) (.seq (.reg [q (.mv (.s 0)), q (.conv .u32 (.l 0)), q (.mv (.s 1)), q (.conv .u32 (.l 0)), q (.call .cl (.c (.one (.fn F.bits_Mul32 [] []))) [(.l 2), (.l 0)]), q (.mv (.l 0)), q (.ext (.l 0) 0), q (.ext (.l 1) 1), w 4 (.mv (.l 1)), w 5 (.mv (.l 1))])
   (.seq (.reg [q (.mv (.s 4)), q (.conv .u64 (.l 0)), q (.mv (.s 5)), q (.conv .u64 (.l 0)), w 2 (.mv (.l 2)), w 3 (.mv (.l 1))])
   (.ret [f,f,t,t,f,f,f,f])))
   .skip)
   (.seq (.reg [q (.mv (.s 0)), q (.mv (.s 1)), q (.call .cl (.c (.one (.fn F.bits_Mul64 [] []))) [(.l 1), (.l 0)]), q (.mv (.l 0)), q (.ext (.l 0) 0), q (.ext (.l 1) 1), w 6 (.mv (.l 1)), w 7 (.mv (.l 1))])
   (.seq (.reg [q (.mv (.s 6)), q (.mv (.s 7)), w 2 (.mv (.l 1)), w 3 (.mv (.l 1))])
   (.ret [f,f,t,t,f,f,f,f]))))) }
def k_bits_Mul : List Go.Tmp := [0, 1, 4, 5, 6, 7, 8, 9]
theorem c_bits_Mul : chkFun Go.Proofs.Tryz.prog (drawsOf Go.Proofs.Tryz.prog) k_bits_Mul Go.Proofs.Tryz.f200 a_bits_Mul = true := by kernel_rfl

def dom_right_b0 : Go.A.Code :=
   (.seq (.reg [w 8 (.bin .lss (.s 7) (.s 6))])
   (.seq (.cond (.s 8) .skip
   (.exit 0 [f,f,t,f,f,f,f,f,f,f,f] 0))
   (.seq (.block 1 (.seq (.reg [q (.mv (.s 7)), q (.ia 1 (.s 5) (.s 7)), q (.ld none (.l 0)), w 3 (.mv (.l 2)), w 4 (.mv (.l 1))])
   (.seq (.seq (.reg [q (.mv (.s 4)), w 9 (.bin .eql (.l 0) (i (-1)))])
   (.cond (.s 9) (.reg [q (.mv (.s 2)), q (.bin .add (.l 0) (i 1)), w 2 (.mv (.l 0))])
   .skip))
   (.seq (.reg [q (.mv (.s 4)), q (.bin .neq (.l 0) (i (-2))), q (.mv (.l 0)), ⟨.loc, .mv (.s 0), (some (.l 0, true))⟩, ⟨.loc, .mv (.s 3), (some (.l 1, true))⟩, ⟨.loc, .call .cl (.c (.one (.fn F.dom_depth [] []))) [(.l 1), (.l 0)], (some (.l 2, true))⟩, ⟨.loc, .bin .lss (.l 0) (i 0), (some (.l 3, true))⟩, w 10 (.pick (.l 4) (.l 0) (bo false))])
   (.cond (.s 10) (.seq (.reg [w 1 (.mv (bo false))])
   (.ret [f,t,f,f,f,f,f,f,f,f,f]))
   .skip)))))
   (.reg [q (.bin .add (.s 7) (i 1)), w 7 (.mv (.l 0))]))))
def dom_right_l0 : Go.A.Code := .loop [t,f,t,f,f,t,t,t,f,f,f] 0 dom_right_b0
theorem dom_right_l0_eq (T : Nat → Option Entry) (s : St) : exec T dom_right_l0 s = (exec T dom_right_b0 s).bind (loopK (exec T dom_right_l0) [t,f,t,f,f,t,t,t,f,f,f] 0) := exec_loop T s _ _ _
/-- lockstep/dom.right -/
def a_dom_right : Fun := { np := 1, nslots := 11, keep := 0, raw := false, results := [(1, none)], body :=
   (.seq (.reg [w 1 (.mv (bo false))])
   (.seq (.reg [w 2 (.mv (i 0))])
   (.seq (.seq (.reg [w 5 (.mv (.s 0)), w 6 (.len (.s 5)), w 7 (.mv (i 0))])
   (.block 0 dom_right_l0))
   (.seq (.reg [q (.mv (.s 2)), q (.bin .eql (.l 0) (i 1)), w 1 (.mv (.l 0))])
   (.ret [f,t,f,f,f,f,f,f,f,f,f]))))) }
def k_dom_right : List Go.Tmp := [0, 2, 3, 4, 5, 6, 7, 8, 9, 14, 24]
theorem c_dom_right : chkFun Go.Proofs.Tryz.prog (drawsOf Go.Proofs.Tryz.prog) k_dom_right Go.Proofs.Tryz.f201 a_dom_right = true := by kernel_rfl

/-- lockstep/dom.in$1 -/
def a_dom_in_1 : Fun := { np := 2, nslots := 3, keep := 0, raw := false, results := [(2, none)], body :=
   (.seq (.reg [w 2 (.mv (bo false))])
   (.seq (.reg [q (.ld none (.s 1)), q (.mv (.s 0)), q (.call .cl (.c (.one (.fn F.dom_depth [] []))) [(.l 1), (.l 0)]), q (.bin .lss (.l 0) (i 0)), w 2 (.mv (.l 0))])
   (.ret [f,f,t]))) }
def k_dom_in_1 : List Go.Tmp := [0, 1, 3]
theorem c_dom_in_1 : chkFun Go.Proofs.Tryz.prog (drawsOf Go.Proofs.Tryz.prog) k_dom_in_1 Go.Proofs.Tryz.f202 a_dom_in_1 = true := by kernel_rfl

def dom_depth_b0 : Go.A.Code :=
   (.seq (.reg [w 6 (.bin .lss (.s 5) (.s 4))])
   (.seq (.cond (.s 6) .skip
   (.exit 0 [f,f,f,f,f,f,f,f,f] 0))
   (.seq (.block 1 (.seq (.reg [q (.mv (.s 5)), w 3 (.mv (.l 0))])
   (.seq (.seq (.reg [q (.mv (.s 1)), q (.bin .lss (.l 0) (i 0)), q (.mv (.l 0)), ⟨.loc, .mv (.s 1), (some (.l 0, false))⟩, ⟨.loc, .mv (.s 0), (some (.l 1, false))⟩, ⟨.loc, .len (.l 0), (some (.l 2, false))⟩, ⟨.loc, .bin .geq (.l 2) (.l 0), (some (.l 3, false))⟩, w 7 (.pick (.l 4) (bo true) (.l 0))])
   (.cond (.s 7) (.seq (.reg [w 2 (.mv (i (-1)))])
   (.ret [f,f,t,f,f,f,f,f,f]))
   .skip))
   (.seq (.seq (.reg [q (.mv (.s 0)), q (.mv (.s 1)), q (.ia 1 (.l 1) (.l 0)), q (.ld none (.l 0)), w 8 (.bin .eql (.l 0) (i (-1)))])
   (.cond (.s 8) (.seq (.reg [q (.mv (.s 3)), w 2 (.mv (.l 0))])
   (.ret [f,f,t,f,f,f,f,f,f]))
   .skip))
   (.reg [q (.mv (.s 0)), q (.mv (.s 1)), q (.ia 1 (.l 1) (.l 0)), q (.ld none (.l 0)), w 1 (.mv (.l 0))])))))
   (.reg [q (.bin .add (.s 5) (i 1)), w 5 (.mv (.l 0))]))))
def dom_depth_l0 : Go.A.Code := .loop [t,t,f,f,t,t,f,f,f] 0 dom_depth_b0
theorem dom_depth_l0_eq (T : Nat → Option Entry) (s : St) : exec T dom_depth_l0 s = (exec T dom_depth_b0 s).bind (loopK (exec T dom_depth_l0) [t,t,f,f,t,t,f,f,f] 0) := exec_loop T s _ _ _
/-- lockstep/dom.depth -/
def a_dom_depth : Fun := { np := 2, nslots := 9, keep := 0, raw := false, results := [(2, none)], body :=
   (.seq (.reg [w 2 (.mv (i 0))])
   (.seq (.seq (.reg [q (.mv (.s 0)), w 4 (.len (.l 0)), w 5 (.mv (i 0))])
   (.block 0 dom_depth_l0))
   (.seq (.reg [w 2 (.mv (i (-1)))])
   (.ret [f,f,t,f,f,f,f,f,f])))) }
def k_dom_depth : List Go.Tmp := [0, 1, 4, 5, 7, 8, 9, 18, 23]
theorem c_dom_depth : chkFun Go.Proofs.Tryz.prog (drawsOf Go.Proofs.Tryz.prog) k_dom_depth Go.Proofs.Tryz.f203 a_dom_depth = true := by kernel_rfl

/-- lockstep/kind.takes -/
def a_kind_takes : Fun := { np := 1, nslots := 23, keep := 0, raw := false, results := [(2, none), (3, none)], body :=
   (.seq (.reg [w 1 (.box 6 (.s 0)), w 2 (.mv (.c (.one (.f (.sl []))))), w 3 (.mv (bo false))])
   (.seq (.regd [(6, 15)] [q (.fa 1 (.s 1)), q (.ld none (.l 0)), q (.fa 2 (.s 1)), q (.ld none (.l 0)), q (.bld [.f (.lit (.int .i64 0)), .f (.lit (.int .i64 0))] [(0, 1, (.l 2)), (1, 1, (.l 0))] []), q (.fa 1 (.s 1)), q (.ld none (.l 0)), q (.bld [.f (.lit (.int .i64 0)), .f (.lit (.int .i64 0))] [(0, 1, (.l 0)), (1, 1, (i 1))] []), q (.bld [.f (.lit (.int .i64 0)), .f (.lit (.int .i64 0))] [(0, 1, (i 1)), (1, 1, (i 1))] []), q (.bld [.f (.lit (.int .i64 0)), .f (.lit (.int .i64 0))] [(0, 1, (i 64)), (1, 1, (i 1))] []), w 4 (.al [.f (.lit (.int .i64 0)), .f (.lit (.int .i64 0))] []), w 5 (.al [.f (.lit (.int .i64 0)), .f (.lit (.int .i64 0))] []), w 6 (.al [.f (.lit (.int .i64 0)), .f (.lit (.int .i64 0))] []), w 7 (.al [.f (.lit (.int .i64 0)), .f (.lit (.int .i64 0))] []), e (.st 2 (.s 4) (.l 9)), e (.st 2 (.s 5) (.l 7)), e (.st 2 (.s 6) (.l 7)), e (.st 2 (.s 7) (.l 7))])
   (.seq (.reg [q (.fa 2 (.s 1)), q (.ld none (.l 0)), q (.bin .eql (.l 0) (i 1)), q (.fa 1 (.s 1)), q (.ld none (.l 0)), q (.bin .geq (.l 0) (i 8)), w 8 (.mv (.l 3)), w 9 (.mv (.l 1))])
   (.seq (.seq (.reg [q (.fa 0 (.s 1)), w 10 (.ld none (.l 0))])
   (.block 0 (.seq (.reg [q (.bin .eql (.s 10) (i 0)), w 11 (.mv (.l 0))])
   (.cond (.s 11) (.seq (.reg [q (.fa 5 (.s 1)), q (.ld none (.l 0)), q (.fa 1 (.s 1)), q (.ld none (.l 0)), q (.call .cl (.c (.one (.fn F.word_Cut [] []))) [(.l 2), (.l 0)]), q (.fa 5 (.s 1)), q (.ld none (.l 0)), q (.bin .eql (.l 2) (.l 0)), w 2 (.mv (.c (.one (.f (.sl []))))), w 3 (.mv (.l 1))])
   (.ret [f,f,t,t,f,f,f,f,f,f,f,f,f,f,f,f,f,f,f,f,f,f,f]))
   (.seq (.seq (.reg [q (.bin .eql (.s 10) (i 1)), w 12 (.mv (.l 0))])
   (.cond (.s 12) .skip
   (.seq (.reg [q (.bin .eql (.s 10) (i 2)), w 12 (.mv (.l 0))])
   (.cond (.s 12) .skip
   (.seq (.reg [q (.bin .eql (.s 10) (i 3)), w 12 (.mv (.l 0))])
   (.cond (.s 12) .skip
   (.seq (.reg [q (.bin .eql (.s 10) (i 5)), w 12 (.mv (.l 0))])
   (.cond (.s 12) .skip
   (.seq (.reg [q (.bin .eql (.s 10) (i 6)), w 12 (.mv (.l 0))])
   (.cond (.s 12) .skip
   (.seq (.reg [q (.bin .eql (.s 10) (i 7)), w 12 (.mv (.l 0))])
   (.cond (.s 12) .skip
   (.seq (.reg [q (.bin .eql (.s 10) (i 8)), w 12 (.mv (.l 0))])
   (.cond (.s 12) .skip
   (.reg [q (.bin .eql (.s 10) (i 9)), w 12 (.mv (.l 0))])))))))))))))))
   (.cond (.s 12) (.seq (.reg [q (.ld (some 2) (.s 4)), q (.ld (some 2) (.s 4)), q (.bsl .fz 2 [[.f (.lit (.int .i64 0)), .f (.lit (.int .i64 0))], [.f (.lit (.int .i64 0)), .f (.lit (.int .i64 0))]] [(0, (.l 1)), (1, (.l 0))]), q (.call .cl (.c (.one (.fn F.kind_row [] []))) [(.l 0)]), q (.fa 5 (.s 1)), q (.ld none (.l 0)), q (.bin .eql (.l 0) (ik .u64 0)), w 2 (.mv (.l 3)), w 3 (.mv (.l 1))])
   (.ret [f,f,t,t,f,f,f,f,f,f,f,f,f,f,f,f,f,f,f,f,f,f,f]))
   (.seq (.seq (.reg [q (.bin .eql (.s 10) (i 4)), w 13 (.mv (.l 0))])
   (.cond (.s 13) .skip
   (.seq (.reg [q (.bin .eql (.s 10) (i 10)), w 13 (.mv (.l 0))])
   (.cond (.s 13) .skip
   (.seq (.reg [q (.bin .eql (.s 10) (i 11)), w 13 (.mv (.l 0))])
   (.cond (.s 13) .skip
   (.reg [q (.bin .eql (.s 10) (i 12)), w 13 (.mv (.l 0))])))))))
   (.cond (.s 13) (.seq (.reg [q (.ld (some 2) (.s 4)), q (.ld (some 2) (.s 4)), q (.bsl .fz 2 [[.f (.lit (.int .i64 0)), .f (.lit (.int .i64 0))], [.f (.lit (.int .i64 0)), .f (.lit (.int .i64 0))]] [(0, (.l 1)), (1, (.l 0))]), q (.call .cl (.c (.one (.fn F.kind_row [] []))) [(.l 0)]), q (.fa 5 (.s 1)), q (.ld none (.l 0)), q (.bin .eql (.l 0) (ik .u64 0)), q (.mv (.l 0)), ⟨.loc, .mv (.s 8), (some (.l 0, true))⟩, q (.pick (.l 1) (.l 0) (bo false)), w 2 (.mv (.l 6)), w 3 (.mv (.l 1))])
   (.ret [f,f,t,t,f,f,f,f,f,f,f,f,f,f,f,f,f,f,f,f,f,f,f]))
   (.seq (.reg [q (.bin .eql (.s 10) (i 13)), w 14 (.mv (.l 0))])
   (.cond (.s 14) (.seq (.reg [q (.ld (some 2) (.s 6)), q (.ld (some 2) (.s 4)), q (.ld (some 2) (.s 4)), q (.bsl .fz 2 [[.f (.lit (.int .i64 0)), .f (.lit (.int .i64 0))], [.f (.lit (.int .i64 0)), .f (.lit (.int .i64 0))], [.f (.lit (.int .i64 0)), .f (.lit (.int .i64 0))]] [(0, (.l 2)), (1, (.l 1)), (2, (.l 0))]), q (.call .cl (.c (.one (.fn F.kind_row [] []))) [(.l 0)]), q (.fa 5 (.s 1)), q (.ld none (.l 0)), q (.bin .eql (.l 0) (ik .u64 0)), w 2 (.mv (.l 3)), w 3 (.mv (.l 1))])
   (.ret [f,f,t,t,f,f,f,f,f,f,f,f,f,f,f,f,f,f,f,f,f,f,f]))
   (.seq (.reg [q (.bin .eql (.s 10) (i 14)), w 15 (.mv (.l 0))])
   (.cond (.s 15) (.seq (.reg [q (.fa 5 (.s 1)), q (.ld none (.l 0)), q (.mxn false (.l 0) (ik .u64 128)), q (.conv .i64 (.l 0)), q (.bld [.f (.lit (.int .i64 0)), .f (.lit (.int .i64 0))] [(0, 1, (.l 0)), (1, 1, (i 1))] []), q (.bsl .fz 2 [[.f (.lit (.int .i64 0)), .f (.lit (.int .i64 0))]] [(0, (.l 0))]), q (.call .cl (.c (.one (.fn F.kind_row [] []))) [(.l 0)]), q (.mv (.s 8)), q (.mv (.l 0)), ⟨.loc, .fa 5 (.s 1), (some (.l 0, true))⟩, ⟨.loc, .ld none (.l 0), (some (.l 1, true))⟩, ⟨.loc, .fa 1 (.s 1), (some (.l 2, true))⟩, ⟨.loc, .ld none (.l 0), (some (.l 3, true))⟩, ⟨.loc, .conv .u64 (.l 0), (some (.l 4, true))⟩, ⟨.loc, .bin .lss (.l 3) (.l 0), (some (.l 5, true))⟩, q (.pick (.l 6) (.l 0) (bo false)), q (.mv (.l 0)), ⟨.loc, .fa 5 (.s 1), (some (.l 0, true))⟩, ⟨.loc, .ld none (.l 0), (some (.l 1, true))⟩, ⟨.loc, .conv .i64 (.l 0), (some (.l 2, true))⟩, ⟨.loc, .call .cl (.c (.one (.fn F.word_May [] []))) [(.l 0)], (some (.l 3, true))⟩, q (.pick (.l 4) (.l 0) (bo false)), w 2 (.mv (.l 15)), w 3 (.mv (.l 1))])
   (.ret [f,f,t,t,f,f,f,f,f,f,f,f,f,f,f,f,f,f,f,f,f,f,f]))
   (.seq (.reg [q (.bin .eql (.s 10) (i 15)), w 16 (.mv (.l 0))])
   (.cond (.s 16) (.seq (.reg [q (.fa 5 (.s 1)), q (.ld none (.l 0)), q (.mxn false (.l 0) (ik .u64 128)), q (.conv .i64 (.l 0)), q (.bld [.f (.lit (.int .i64 0)), .f (.lit (.int .i64 0))] [(0, 1, (.l 0)), (1, 1, (i 1))] []), q (.bsl .fz 2 [[.f (.lit (.int .i64 0)), .f (.lit (.int .i64 0))]] [(0, (.l 0))]), q (.call .cl (.c (.one (.fn F.kind_row [] []))) [(.l 0)]), q (.mv (.s 8)), q (.mv (.l 0)), ⟨.loc, .fa 5 (.s 1), (some (.l 0, true))⟩, ⟨.loc, .ld none (.l 0), (some (.l 1, true))⟩, ⟨.loc, .fa 1 (.s 1), (some (.l 2, true))⟩, ⟨.loc, .ld none (.l 0), (some (.l 3, true))⟩, ⟨.loc, .conv .u64 (.l 0), (some (.l 4, true))⟩, ⟨.loc, .bin .gtr (.l 3) (.l 0), (some (.l 5, true))⟩, q (.pick (.l 6) (.l 0) (bo false)), q (.mv (.l 0)), ⟨.loc, .fa 5 (.s 1), (some (.l 0, true))⟩, ⟨.loc, .ld none (.l 0), (some (.l 1, true))⟩, ⟨.loc, .bin .leq (.l 0) (ik .u64 64), (some (.l 2, true))⟩, q (.pick (.l 3) (.l 0) (bo false)), q (.mv (.l 0)), ⟨.loc, .fa 5 (.s 1), (some (.l 0, true))⟩, ⟨.loc, .ld none (.l 0), (some (.l 1, true))⟩, ⟨.loc, .conv .i64 (.l 0), (some (.l 2, true))⟩, ⟨.loc, .call .cl (.c (.one (.fn F.word_May [] []))) [(.l 0)], (some (.l 3, true))⟩, q (.pick (.l 4) (.l 0) (bo false)), w 2 (.mv (.l 20)), w 3 (.mv (.l 1))])
   (.ret [f,f,t,t,f,f,f,f,f,f,f,f,f,f,f,f,f,f,f,f,f,f,f]))
   (.seq (.reg [q (.bin .eql (.s 10) (i 16)), w 17 (.mv (.l 0))])
   (.cond (.s 17) (.seq (.reg [q (.ld (some 2) (.s 7)), q (.bsl .fz 2 [[.f (.lit (.int .i64 0)), .f (.lit (.int .i64 0))]] [(0, (.l 0))]), q (.call .cl (.c (.one (.fn F.kind_row [] []))) [(.l 0)]), q (.fa 5 (.s 1)), q (.ld none (.l 0)), q (.bin .eql (.l 0) (ik .u64 0)), q (.mv (.l 0)), ⟨.loc, .mv (.s 9), (some (.l 0, true))⟩, q (.pick (.l 1) (.l 0) (bo false)), w 2 (.mv (.l 6)), w 3 (.mv (.l 1))])
   (.ret [f,f,t,t,f,f,f,f,f,f,f,f,f,f,f,f,f,f,f,f,f,f,f]))
   (.seq (.reg [q (.bin .eql (.s 10) (i 17)), w 18 (.mv (.l 0))])
   (.cond (.s 18) (.seq (.reg [q (.ld (some 2) (.s 7)), q (.ld (some 2) (.s 4)), q (.bsl .fz 2 [[.f (.lit (.int .i64 0)), .f (.lit (.int .i64 0))], [.f (.lit (.int .i64 0)), .f (.lit (.int .i64 0))]] [(0, (.l 1)), (1, (.l 0))]), q (.call .cl (.c (.one (.fn F.kind_row [] []))) [(.l 0)]), q (.fa 5 (.s 1)), q (.ld none (.l 0)), q (.bin .eql (.l 0) (ik .u64 0)), q (.mv (.l 0)), ⟨.loc, .mv (.s 9), (some (.l 0, true))⟩, q (.pick (.l 1) (.l 0) (bo false)), w 2 (.mv (.l 6)), w 3 (.mv (.l 1))])
   (.ret [f,f,t,t,f,f,f,f,f,f,f,f,f,f,f,f,f,f,f,f,f,f,f]))
   (.seq (.seq (.reg [q (.bin .eql (.s 10) (i 18)), w 19 (.mv (.l 0))])
   (.cond (.s 19) .skip
   (.reg [q (.bin .eql (.s 10) (i 19)), w 19 (.mv (.l 0))])))
   (.cond (.s 19) (.seq (.reg [q (.ld (some 2) (.s 6)), q (.ld (some 2) (.s 7)), q (.ld (some 2) (.s 4)), q (.bsl .fz 2 [[.f (.lit (.int .i64 0)), .f (.lit (.int .i64 0))], [.f (.lit (.int .i64 0)), .f (.lit (.int .i64 0))], [.f (.lit (.int .i64 0)), .f (.lit (.int .i64 0))]] [(0, (.l 2)), (1, (.l 1)), (2, (.l 0))]), q (.call .cl (.c (.one (.fn F.kind_row [] []))) [(.l 0)]), q (.fa 5 (.s 1)), q (.ld none (.l 0)), q (.bin .eql (.l 0) (ik .u64 0)), q (.mv (.l 0)), ⟨.loc, .mv (.s 8), (some (.l 0, true))⟩, q (.pick (.l 1) (.l 0) (bo false)), q (.mv (.l 0)), ⟨.loc, .mv (.s 9), (some (.l 0, true))⟩, q (.pick (.l 1) (.l 0) (bo false)), w 2 (.mv (.l 9)), w 3 (.mv (.l 1))])
   (.ret [f,f,t,t,f,f,f,f,f,f,f,f,f,f,f,f,f,f,f,f,f,f,f]))
   (.seq (.reg [q (.bin .eql (.s 10) (i 20)), w 20 (.mv (.l 0))])
   (.cond (.s 20) (.seq (.reg [q (.ld (some 2) (.s 6)), q (.ld (some 2) (.s 4)), q (.ld (some 2) (.s 4)), q (.ld (some 2) (.s 4)), q (.bsl .fz 2 [[.f (.lit (.int .i64 0)), .f (.lit (.int .i64 0))], [.f (.lit (.int .i64 0)), .f (.lit (.int .i64 0))], [.f (.lit (.int .i64 0)), .f (.lit (.int .i64 0))], [.f (.lit (.int .i64 0)), .f (.lit (.int .i64 0))]] [(0, (.l 3)), (1, (.l 2)), (2, (.l 1)), (3, (.l 0))]), q (.call .cl (.c (.one (.fn F.kind_row [] []))) [(.l 0)]), q (.fa 5 (.s 1)), q (.ld none (.l 0)), q (.bin .eql (.l 0) (ik .u64 0)), q (.mv (.l 0)), ⟨.loc, .mv (.s 8), (some (.l 0, true))⟩, q (.pick (.l 1) (.l 0) (bo false)), w 2 (.mv (.l 6)), w 3 (.mv (.l 1))])
   (.ret [f,f,t,t,f,f,f,f,f,f,f,f,f,f,f,f,f,f,f,f,f,f,f]))
   (.seq (.reg [q (.bin .eql (.s 10) (i 21)), w 21 (.mv (.l 0))])
   (.cond (.s 21) (.seq (.reg [q (.ld (some 2) (.s 5)), q (.bsl .fz 2 [[.f (.lit (.int .i64 0)), .f (.lit (.int .i64 0))]] [(0, (.l 0))]), q (.call .cl (.c (.one (.fn F.kind_row [] []))) [(.l 0)]), q (.fa 2 (.s 1)), q (.ld none (.l 0)), q (.call .cl (.c (.one (.fn F.slices_Repeat_2int [] []))) [(.l 2), (.l 0)]), q (.fa 5 (.s 1)), q (.ld none (.l 0)), q (.bin .eql (.l 0) (ik .u64 0)), q (.mv (.l 0)), ⟨.loc, .mv (.s 8), (some (.l 0, true))⟩, ⟨.loc, .un .not (.l 0), (some (.l 1, true))⟩, q (.pick (.l 2) (.l 0) (bo false)), w 2 (.mv (.l 7)), w 3 (.mv (.l 1))])
   (.ret [f,f,t,t,f,f,f,f,f,f,f,f,f,f,f,f,f,f,f,f,f,f,f]))
   (.seq (.reg [q (.bin .eql (.s 10) (i 22)), w 22 (.mv (.l 0))])
   (.cond (.s 22) (.seq (.reg [q (.ld (some 2) (.s 4)), q (.bsl .fz 2 [[.f (.lit (.int .i64 0)), .f (.lit (.int .i64 0))]] [(0, (.l 0))]), q (.call .cl (.c (.one (.fn F.kind_row [] []))) [(.l 0)]), q (.mv (.s 8)), q (.un .not (.l 0)), q (.mv (.l 0)), ⟨.loc, .fa 5 (.s 1), (some (.l 0, true))⟩, ⟨.loc, .ld none (.l 0), (some (.l 1, true))⟩, ⟨.loc, .fa 2 (.s 1), (some (.l 2, true))⟩, ⟨.loc, .ld none (.l 0), (some (.l 3, true))⟩, ⟨.loc, .conv .u64 (.l 0), (some (.l 4, true))⟩, ⟨.loc, .bin .lss (.l 3) (.l 0), (some (.l 5, true))⟩, q (.pick (.l 6) (.l 0) (bo false)), w 2 (.mv (.l 10)), w 3 (.mv (.l 1))])
   (.ret [f,f,t,t,f,f,f,f,f,f,f,f,f,f,f,f,f,f,f,f,f,f,f]))
   .skip))))))))))))))))))))))))))
   (.seq (.reg [w 2 (.mv (.c (.one (.f (.sl []))))), w 3 (.mv (bo false))])
   (.ret [f,f,t,t,f,f,f,f,f,f,f,f,f,f,f,f,f,f,f,f,f,f,f])))))) }
def k_kind_takes : List Go.Tmp := [0, 1, 2, 3, 4, 5, 6, 7, 8, 9, 27, 28, 38, 54, 69, 79, 103, 132, 143, 155, 172, 186, 201]
theorem c_kind_takes : chkFun Go.Proofs.Tryz.prog (drawsOf Go.Proofs.Tryz.prog) k_kind_takes Go.Proofs.Tryz.f204 a_kind_takes = true := by kernel_rfl

/-- lockstep/kind.value -/
def a_kind_value : Fun := { np := 1, nslots := 2, keep := 0, raw := false, results := [(1, none)], body :=
   (.seq (.reg [w 1 (.mv (bo false))])
   (.seq (.reg [q (.mv (.s 0)), q (.bin .geq (.l 0) (i 1)), q (.mv (.l 0)), ⟨.loc, .mv (.s 0), (some (.l 0, true))⟩, ⟨.loc, .bin .leq (.l 0) (i 1023), (some (.l 1, true))⟩, q (.pick (.l 2) (.l 0) (bo false)), w 1 (.mv (.l 0))])
   (.ret [f,t]))) }
def k_kind_value : List Go.Tmp := [0, 2]
theorem c_kind_value : chkFun Go.Proofs.Tryz.prog (drawsOf Go.Proofs.Tryz.prog) k_kind_value Go.Proofs.Tryz.f205 a_kind_value = true := by kernel_rfl

/-- lockstep/kind.May$1 -/
def a_kind_May_1 : Fun := { np := 1, nslots := 2, keep := 0, raw := false, results := [(1, none)], body :=
   (.seq (.reg [w 1 (.mv (bo false))])
   (.seq (.reg [q (.mv (.s 0)), q (.call .cl (.c (.one (.fn F.kind_value [] []))) [(.l 0)]), q (.un .not (.l 0)), w 1 (.mv (.l 0))])
   (.ret [f,t]))) }
def k_kind_May_1 : List Go.Tmp := [0, 2]
theorem c_kind_May_1 : chkFun Go.Proofs.Tryz.prog (drawsOf Go.Proofs.Tryz.prog) k_kind_May_1 Go.Proofs.Tryz.f206 a_kind_May_1 = true := by kernel_rfl

/-- slices.ContainsFunc[[]lockstep/api.Form,lockstep/api.Form] -/
def a_slices_ContainsFunc_Form : Fun := { np := 2, nslots := 3, keep := 0, raw := false, results := [(2, none)], body :=
   (.seq (.reg [w 2 (.mv (bo false))])
   (.seq (.reg [q (.mv (.s 0)), q (.mv (.s 1)), q (.call .op (.c (.one (.fn F.slices_IndexFunc_Form [] []))) [(.l 1), (.l 0)]), q (.bin .geq (.l 0) (i 0)), w 2 (.mv (.l 0))])
   (.ret [f,f,t]))) }
def k_slices_ContainsFunc_Form : List Go.Tmp := [0, 1, 4]
theorem c_slices_ContainsFunc_Form : chkFun Go.Proofs.Tryz.prog (drawsOf Go.Proofs.Tryz.prog) k_slices_ContainsFunc_Form Go.Proofs.Tryz.f211 a_slices_ContainsFunc_Form = true := by kernel_rfl

/-- lockstep/affine.may$1 -/
def a_affine_may_1 : Fun := { np := 1, nslots := 3, keep := 0, raw := false, results := [(2, none)], body :=
   (.seq (.reg [w 1 (.box 2 (.s 0)), w 2 (.mv (bo false))])
   (.seq (.reg [q (.ld (some 2) (.s 1)), q (.call .cl (.c (.one (.fn F.affine_May [] []))) [(.l 0)]), q (.un .not (.l 0)), w 2 (.mv (.l 0))])
   (.ret [f,f,t]))) }
def k_affine_may_1 : List Go.Tmp := [0, 1, 2]
theorem c_affine_may_1 : chkFun Go.Proofs.Tryz.prog (drawsOf Go.Proofs.Tryz.prog) k_affine_may_1 Go.Proofs.Tryz.f212 a_affine_may_1 = true := by kernel_rfl

def slices_IndexFunc_sint_b0 : Go.A.Code :=
   (.seq (.reg [w 6 (.bin .lss (.s 5) (.s 4))])
   (.seq (.cond (.s 6) .skip
   (.exit 0 [f,f,f,f,f,f,f,f] 0))
   (.seq (.block 1 (.seq (.reg [q (.mv (.s 5)), w 3 (.mv (.l 0))])
   (.seq (.reg [q (.mv (.s 1)), q (.mv (.s 0)), q (.mv (.s 3)), q (.ia 1 (.l 1) (.l 0)), q (.ld none (.l 0)), w 7 (.call .op (.l 4) [(.l 0)])])
   (.cond (.s 7) (.seq (.reg [q (.mv (.s 3)), w 2 (.mv (.l 0))])
   (.ret [f,f,t,f,f,f,f,f]))
   .skip))))
   (.reg [q (.bin .add (.s 5) (i 1)), w 5 (.mv (.l 0))]))))
def slices_IndexFunc_sint_l0 : Go.A.Code := .loop [t,t,f,f,t,t,f,f] 0 slices_IndexFunc_sint_b0
theorem slices_IndexFunc_sint_l0_eq (T : Nat → Option Entry) (s : St) : exec T slices_IndexFunc_sint_l0 s = (exec T slices_IndexFunc_sint_b0 s).bind (loopK (exec T slices_IndexFunc_sint_l0) [t,t,f,f,t,t,f,f] 0) := exec_loop T s _ _ _
/-- slices.IndexFunc[[][]int,[]int] -/
def a_slices_IndexFunc_sint : Fun := { np := 2, nslots := 8, keep := 0, raw := false, results := [(2, none)], body :=
   (.seq (.reg [w 2 (.mv (i 0))])
   (.seq (.seq (.reg [q (.mv (.s 0)), w 4 (.len (.l 0)), w 5 (.mv (i 0))])
   (.block 0 slices_IndexFunc_sint_l0))
   (.seq (.reg [w 2 (.mv (i (-1)))])
   (.ret [f,f,t,f,f,f,f,f])))) }
def k_slices_IndexFunc_sint : List Go.Tmp := [0, 1, 4, 5, 7, 8, 9, 16]
theorem c_slices_IndexFunc_sint : chkFun Go.Proofs.Tryz.prog (drawsOf Go.Proofs.Tryz.prog) k_slices_IndexFunc_sint Go.Proofs.Tryz.f216 a_slices_IndexFunc_sint = true := by kernel_rfl

def slices_EqualFunc_sint_b0 : Go.A.Code :=
   (.seq (.reg [w 11 (.bin .lss (.s 10) (.s 9))])
   (.seq (.cond (.s 11) .skip
   (.exit 0 [f,f,f,f,f,f,f,f,f,f,f,f,f] 0))
   (.seq (.block 1 (.seq (.reg [q (.mv (.s 10)), q (.ia 1 (.s 8) (.s 10)), q (.ld none (.l 0)), w 4 (.mv (.l 2)), w 5 (.mv (.l 1))])
   (.seq (.reg [q (.mv (.s 1)), q (.mv (.s 4)), q (.ia 1 (.l 1) (.l 0)), q (.ld none (.l 0)), w 6 (.mv (.l 0))])
   (.seq (.reg [q (.mv (.s 2)), q (.mv (.s 5)), q (.mv (.s 6)), q (.call .op (.l 2) [(.l 1), (.l 0)]), w 12 (.un .not (.l 0))])
   (.cond (.s 12) (.seq (.reg [w 3 (.mv (bo false))])
   (.ret [f,f,f,t,f,f,f,f,f,f,f,f,f]))
   .skip)))))
   (.reg [q (.bin .add (.s 10) (i 1)), w 10 (.mv (.l 0))]))))
def slices_EqualFunc_sint_l0 : Go.A.Code := .loop [f,t,t,f,f,f,f,f,t,t,t,f,f] 0 slices_EqualFunc_sint_b0
theorem slices_EqualFunc_sint_l0_eq (T : Nat → Option Entry) (s : St) : exec T slices_EqualFunc_sint_l0 s = (exec T slices_EqualFunc_sint_b0 s).bind (loopK (exec T slices_EqualFunc_sint_l0) [f,t,t,f,f,f,f,f,t,t,t,f,f] 0) := exec_loop T s _ _ _
/-- slices.EqualFunc[[][]int,[][]int,[]int,[]int] -/
def a_slices_EqualFunc_sint : Fun := { np := 3, nslots := 13, keep := 0, raw := false, results := [(3, none)], body :=
   (.seq (.reg [w 3 (.mv (bo false))])
   (.seq (.seq (.reg [q (.mv (.s 0)), q (.len (.l 0)), q (.mv (.s 1)), q (.len (.l 0)), w 7 (.bin .neq (.l 2) (.l 0))])
   (.cond (.s 7) (.seq (.reg [w 3 (.mv (bo false))])
   (.ret [f,f,f,t,f,f,f,f,f,f,f,f,f]))
   .skip))
   (.seq (.seq (.reg [w 8 (.mv (.s 0)), w 9 (.len (.s 8)), w 10 (.mv (i 0))])
   (.block 0 slices_EqualFunc_sint_l0))
   (.seq (.reg [w 3 (.mv (bo true))])
   (.ret [f,f,f,t,f,f,f,f,f,f,f,f,f]))))) }
def k_slices_EqualFunc_sint : List Go.Tmp := [0, 1, 2, 6, 7, 8, 9, 14, 15, 16, 17, 18, 30]
theorem c_slices_EqualFunc_sint : chkFun Go.Proofs.Tryz.prog (drawsOf Go.Proofs.Tryz.prog) k_slices_EqualFunc_sint Go.Proofs.Tryz.f217 a_slices_EqualFunc_sint = true := by kernel_rfl

/-- math/bits.Mul32 -/
def a_bits_Mul32 : Fun := { np := 2, nslots := 5, keep := 0, raw := false, results := [(2, none), (3, none)], body :=
   (.seq (.reg [w 2 (.mv (ik .u32 0)), w 3 (.mv (ik .u32 0))])
   (.seq (.reg [q (.mv (.s 0)), q (.conv .u64 (.l 0)), q (.mv (.s 1)), q (.conv .u64 (.l 0)), q (.bin .mul (.l 2) (.l 0)), w 4 (.mv (.l 0))])
   (.seq (.reg [q (.mv (.s 4)), q (.bin .shr (.l 0) (ik .u64 32)), q (.conv .u32 (.l 0)), q (.mv (.s 4)), q (.conv .u32 (.l 0)), w 2 (.mv (.l 2)), w 3 (.mv (.l 1))])
   (.ret [f,f,t,t,f])))) }
def k_bits_Mul32 : List Go.Tmp := [0, 1, 4, 5, 6]
theorem c_bits_Mul32 : chkFun Go.Proofs.Tryz.prog (drawsOf Go.Proofs.Tryz.prog) k_bits_Mul32 Go.Proofs.Tryz.f218 a_bits_Mul32 = true := by kernel_rfl

/-- math/bits.Mul64 -/
def a_bits_Mul64 : Fun := { np := 2, nslots := 12, keep := 0, raw := false, results := [(2, none), (3, none)], body :=
   (.seq (.reg [w 2 (.mv (ik .u64 0)), w 3 (.mv (ik .u64 0))])
   (.seq (.reg [q (.mv (.s 0)), q (.bin .and (.l 0) (ik .u64 4294967295)), w 4 (.mv (.l 0))])
   (.seq (.reg [q (.mv (.s 0)), q (.bin .shr (.l 0) (ik .u64 32)), w 5 (.mv (.l 0))])
   (.seq (.reg [q (.mv (.s 1)), q (.bin .and (.l 0) (ik .u64 4294967295)), w 6 (.mv (.l 0))])
   (.seq (.reg [q (.mv (.s 1)), q (.bin .shr (.l 0) (ik .u64 32)), w 7 (.mv (.l 0))])
   (.seq (.reg [q (.mv (.s 4)), q (.mv (.s 6)), q (.bin .mul (.l 1) (.l 0)), w 8 (.mv (.l 0))])
   (.seq (.reg [q (.mv (.s 5)), q (.mv (.s 6)), q (.bin .mul (.l 1) (.l 0)), q (.mv (.s 8)), q (.bin .shr (.l 0) (ik .u64 32)), q (.bin .add (.l 2) (.l 0)), w 9 (.mv (.l 0))])
   (.seq (.reg [q (.mv (.s 9)), q (.bin .and (.l 0) (ik .u64 4294967295)), w 10 (.mv (.l 0))])
   (.seq (.reg [q (.mv (.s 9)), q (.bin .shr (.l 0) (ik .u64 32)), w 11 (.mv (.l 0))])
   (.seq (.reg [q (.mv (.s 10)), q (.mv (.s 4)), q (.mv (.s 7)), q (.bin .mul (.l 1) (.l 0)), q (.bin .add (.l 3) (.l 0)), w 10 (.mv (.l 0))])
   (.seq (.reg [q (.mv (.s 5)), q (.mv (.s 7)), q (.bin .mul (.l 1) (.l 0)), q (.mv (.s 11)), q (.bin .add (.l 1) (.l 0)), q (.mv (.s 10)), q (.bin .shr (.l 0) (ik .u64 32)), q (.bin .add (.l 2) (.l 0)), w 2 (.mv (.l 0))])
   (.seq (.reg [q (.mv (.s 0)), q (.mv (.s 1)), q (.bin .mul (.l 1) (.l 0)), w 3 (.mv (.l 0))])
   (.ret [f,f,t,t,f,f,f,f,f,f,f,f]))))))))))))) }
def k_bits_Mul64 : List Go.Tmp := [0, 1, 4, 5, 6, 7, 8, 9, 10, 11, 12, 13]
theorem c_bits_Mul64 : chkFun Go.Proofs.Tryz.prog (drawsOf Go.Proofs.Tryz.prog) k_bits_Mul64 Go.Proofs.Tryz.f219 a_bits_Mul64 = true := by kernel_rfl

/-- lockstep/kind.row -/
def a_kind_row : Fun := { np := 1, nslots := 2, keep := 0, raw := false, results := [(1, none)], body :=
   (.seq (.reg [w 1 (.mv (.c (.one (.f (.sl [])))))])
   (.seq (.reg [q (.mv (.s 0)), w 1 (.mv (.l 0))])
   (.ret [f,t]))) }
def k_kind_row : List Go.Tmp := [0, 2]
theorem c_kind_row : chkFun Go.Proofs.Tryz.prog (drawsOf Go.Proofs.Tryz.prog) k_kind_row Go.Proofs.Tryz.f220 a_kind_row = true := by kernel_rfl

def slices_Repeat_2int_b0 : Go.A.Code :=
   (.seq (.seq (.reg [q (.mv (.s 6)), q (.mv (.s 5)), q (.len (.l 0)), w 9 (.bin .lss (.l 2) (.l 0))])
   (.cond (.s 9) .skip
   (.exit 0 [f,f,f,f,f,t,f,f,f,f] 1)))
   (.block 1 (.reg [q (.mv (.s 6)), q (.mv (.s 5)), q (.mv (.s 6)), q (.slc 2 (.l 1) (some (.l 0)) none none), q (.mv (.s 5)), q (.mv (.s 6)), q (.slc 2 (.l 1) none (some (.l 0)) none), q (.cpy 2 (.l 3) (.l 0)), q (.bin .add (.l 7) (.l 0)), w 6 (.mv (.l 0))])))
def slices_Repeat_2int_l0 : Go.A.Code := .loop [f,f,f,f,f,t,t,f,f,f] 1 slices_Repeat_2int_b0
theorem slices_Repeat_2int_l0_eq (T : Nat → Option Entry) (s : St) : exec T slices_Repeat_2int_l0 s = (exec T slices_Repeat_2int_b0 s).bind (loopK (exec T slices_Repeat_2int_l0) [f,f,f,f,f,t,t,f,f,f] 1) := exec_loop T s _ _ _
/-- slices.Repeat[[][2]int,[2]int] -/
def a_slices_Repeat_2int : Fun := { np := 2, nslots := 10, keep := 0, raw := false, results := [(2, none)], body :=
   (.seq (.reg [w 2 (.mv (.c (.one (.f (.sl [])))))])
   (.seq (.seq (.reg [q (.mv (.s 1)), w 7 (.bin .lss (.l 0) (i 0))])
   (.cond (.s 7) (.reg [q (.no ""), e (.no "")])
   .skip))
   (.seq (.reg [q (.mv (.s 0)), q (.len (.l 0)), q (.conv .u64 (.l 0)), q (.mv (.s 1)), q (.conv .u64 (.l 0)), q (.call .cl (.c (.one (.fn F.bits_Mul [] []))) [(.l 2), (.l 0)]), q (.mv (.l 0)), q (.ext (.l 0) 0), q (.ext (.l 1) 1), w 3 (.mv (.l 1)), w 4 (.mv (.l 1))])
   (.seq (.seq (.reg [q (.mv (.s 3)), q (.bin .gtr (.l 0) (ik .u64 0)), q (.mv (.l 0)), ⟨.loc, .mv (.s 4), (some (.l 0, false))⟩, ⟨.loc, .bin .gtr (.l 0) (ik .u64 9223372036854775807), (some (.l 1, false))⟩, w 8 (.pick (.l 2) (bo true) (.l 0))])
   (.cond (.s 8) (.reg [q (.no ""), e (.no "")])
   .skip))
   (.seq (.reg [q (.mv (.s 4)), q (.conv .i64 (.l 0)), q (.mks [.f (.lit (.int .i64 0)), .f (.lit (.int .i64 0))] none (.l 0)), w 5 (.mv (.l 0))])
   (.seq (.reg [q (.mv (.s 5)), q (.mv (.s 0)), q (.cpy 2 (.l 1) (.l 0)), w 6 (.mv (.l 0))])
   (.seq (.block 0 slices_Repeat_2int_l0)
   (.seq (.reg [q (.mv (.s 5)), w 2 (.mv (.l 0))])
   (.ret [f,f,t,f,f,f,f,f,f,f]))))))))) }
def k_slices_Repeat_2int : List Go.Tmp := [0, 1, 4, 5, 6, 7, 8, 10, 26, 37]
theorem c_slices_Repeat_2int : chkFun Go.Proofs.Tryz.prog (drawsOf Go.Proofs.Tryz.prog) k_slices_Repeat_2int Go.Proofs.Tryz.f221 a_slices_Repeat_2int = true := by kernel_rfl

def slices_IndexFunc_Form_b0 : Go.A.Code :=
   (.seq (.reg [w 6 (.bin .lss (.s 5) (.s 4))])
   (.seq (.cond (.s 6) .skip
   (.exit 0 [f,f,f,f,f,f,f,f] 0))
   (.seq (.block 1 (.seq (.reg [q (.mv (.s 5)), w 3 (.mv (.l 0))])
   (.seq (.reg [q (.mv (.s 1)), q (.mv (.s 0)), q (.mv (.s 3)), q (.ia 2 (.l 1) (.l 0)), q (.ld (some 2) (.l 0)), w 7 (.call .op (.l 4) [(.l 0)])])
   (.cond (.s 7) (.seq (.reg [q (.mv (.s 3)), w 2 (.mv (.l 0))])
   (.ret [f,f,t,f,f,f,f,f]))
   .skip))))
   (.reg [q (.bin .add (.s 5) (i 1)), w 5 (.mv (.l 0))]))))
def slices_IndexFunc_Form_l0 : Go.A.Code := .loop [t,t,f,f,t,t,f,f] 0 slices_IndexFunc_Form_b0
theorem slices_IndexFunc_Form_l0_eq (T : Nat → Option Entry) (s : St) : exec T slices_IndexFunc_Form_l0 s = (exec T slices_IndexFunc_Form_b0 s).bind (loopK (exec T slices_IndexFunc_Form_l0) [t,t,f,f,t,t,f,f] 0) := exec_loop T s _ _ _
/-- slices.IndexFunc[[]lockstep/api.Form,lockstep/api.Form] -/
def a_slices_IndexFunc_Form : Fun := { np := 2, nslots := 8, keep := 0, raw := false, results := [(2, none)], body :=
   (.seq (.reg [w 2 (.mv (i 0))])
   (.seq (.seq (.reg [q (.mv (.s 0)), w 4 (.len (.l 0)), w 5 (.mv (i 0))])
   (.block 0 slices_IndexFunc_Form_l0))
   (.seq (.reg [w 2 (.mv (i (-1)))])
   (.ret [f,f,t,f,f,f,f,f])))) }
def k_slices_IndexFunc_Form : List Go.Tmp := [0, 1, 4, 5, 7, 8, 9, 16]
theorem c_slices_IndexFunc_Form : chkFun Go.Proofs.Tryz.prog (drawsOf Go.Proofs.Tryz.prog) k_slices_IndexFunc_Form Go.Proofs.Tryz.f236 a_slices_IndexFunc_Form = true := by kernel_rfl

end AC
