/- A part of the proof of SchedTells. Conditions: none. -/
import Derived.Test.YtmkncmffaaninaaGreatTAS
set_option linter.all false
namespace AC
open Go Go.A Go.A.Lex
set_option maxHeartbeats 4000000
section
variable (o : POp) (hs : zdQ o.bits o.lanes = true) (ho : zDi o)
include hs ho
theorem zpr (h : o.kind = 16 ∨ o.kind = 17 ∨ o.kind = 18 ∨ o.kind = 19) : call T 252 [vOp o] [] = some (zcO o,[]):=by
 rw [ze (fn:=zk) rfl];obtain ⟨kind,bits,lanes,dst,args,a⟩:=o;obtain ⟨hm,f⟩:=zf9 hs;dsimp only at *
 by_cases b : kind = 16
 ·subst b
  by_cases d1 : a = 0 <;> simp -implicitDefEqProofs only [go_sem,zk,zcO,zO,rs,arith,asks,d1]
 by_cases d : kind = 17
 ·subst d
  by_cases d1 : a = 0 <;> simp -implicitDefEqProofs only [go_sem,zk,zcO,zO,rs,arith,asks,d1]
 by_cases e : kind = 18
 ·subst e
  by_cases d1 : a = 0 <;> by_cases d2 : lanes = 1 <;> simp -implicitDefEqProofs only [go_sem,zk,zcO,zO,rs,arith,asks,d1,d2]
 by_cases c : kind = 19
 ·subst c
  by_cases d1 : a = 0 <;> by_cases d2 : lanes = 1 <;> simp -implicitDefEqProofs only [go_sem,zk,zcO,zO,rs,arith,asks,d1,d2]
 omega
end
end AC
