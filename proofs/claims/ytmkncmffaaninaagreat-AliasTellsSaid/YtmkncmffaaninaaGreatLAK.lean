/- A part of the proof of AliasTells. Conditions: none. -/
import Derived.Test.YtmkncmffaaninaaGreatLAJ
set_option linter.all false
open Bool renaming or_eq_true → ya
namespace AC
open Go Go.A Go.A.Lex
def arith (k : Int) : Bool:=decide (k = 1) || decide (k = 2) || decide (k = 3) || decide (k = 5) || decide (k = 6) || decide (k = 7) || decide (k = 8) || decide (k = 9)
def asks (k : Int) : Bool:=decide (k = 4) || decide (k = 10) || decide (k = 11) || decide (k = 12)
def zFs (o : POp) : Prop:=0 ≤ o.imm ∧ o.imm < 18446744073709551616
def zr (o : POp) : List (Int × Int) × Bool :=
 let own:=(o.bits,o.lanes)
 if o.kind = 0 then ([],decide (zzU o.imm o.bits = o.imm))
 else if arith o.kind then ([own,own],decide (o.imm = 0))
 else if asks o.kind then ([own,own],decide (o.imm = 0) && decide (o.lanes = 1))
 else if o.kind = 13 then ([(1,1),own,own],decide (o.imm = 0))
 else if o.kind = 14 then ([(min o.imm 128,1)],decide (o.lanes = 1) && (decide (o.imm < o.bits) && zhe o.imm))
 else if o.kind = 15 then ([(min o.imm 128,1)],decide (o.lanes = 1) && (decide (o.bits < o.imm) && (decide (o.imm ≤ 64) && zhe o.imm)))
 else if o.kind = 16 then ([(64,1)],decide (o.imm = 0) && decide (8 ≤ o.bits))
 else if o.kind = 17 then ([(64,1),own],decide (o.imm = 0) && decide (8 ≤ o.bits))
 else if o.kind = 18 ∨ o.kind = 19 then ([(1,1),(64,1),own],decide (o.imm = 0) && (decide (o.lanes = 1) && decide (8 ≤ o.bits)))
 else if o.kind = 20 then ([(1,1),own,own,own],decide (o.imm = 0) && decide (o.lanes = 1))
 else if o.kind = 21 then (List.replicate o.lanes.toNat (o.bits,1),decide (o.imm = 0) && !decide (o.lanes = 1))
 else if o.kind = 22 then ([own],!decide (o.lanes = 1) && decide (o.imm < o.lanes))
 else ([],false)
def zcF (o : POp) : V:=.tup [vSs (zr o).1,vB (zr o).2]
set_option maxHeartbeats 4000000
section
variable (o : POp) (hs : zdS o.bits o.lanes = true) (ho : zFs o)
include hs ho
theorem zH5 (h : arith o.kind = true) : call T 252 [vOp o] [] = some (zcF o,[]):=by
 rw [ze (fn:=zo) rfl];obtain ⟨kind,bits,lanes,dst,args,b⟩:=o;have a:=h;simp only [arith,ya,decide_eq_true_eq] at h a;rcases a with ((((((rfl | rfl) | rfl) | rfl) | rfl) | rfl) | rfl) | rfl
 all_goals simp -implicitDefEqProofs only [go_sem,zo,zcF,zr,rs,arith,h]
theorem zIF (h : asks o.kind = true) : call T 252 [vOp o] [] = some (zcF o,[]):=by
 rw [ze (fn:=zo) rfl];obtain ⟨kind,bits,lanes,dst,args,a⟩:=o;have b:=h;simp only [asks,ya,decide_eq_true_eq] at h b
 by_cases c : a = 0
 all_goals
  rcases b with ((rfl | rfl) | rfl) | rfl
  all_goals simp -implicitDefEqProofs only [go_sem,zo,zcF,zr,rs,arith,asks,h,c]
end
end AC
