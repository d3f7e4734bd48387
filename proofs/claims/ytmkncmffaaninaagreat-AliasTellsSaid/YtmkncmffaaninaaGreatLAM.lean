/- A part of the proof of AliasTells. Conditions: none. -/
import Derived.Test.YtmkncmffaaninaaGreatLAK
set_option linter.all false
namespace AC
open Go Go.A Go.A.Lex
set_option maxHeartbeats 4000000
section
variable (o : POp) (hs : zdS o.bits o.lanes = true) (ho : zFs o)
include hs ho
theorem zqJ (h : o.kind = 16 ∨ o.kind = 17 ∨ o.kind = 18 ∨ o.kind = 19) : call T 252 [vOp o] [] = some (zcF o,[]):=by
 rw [ze (fn:=zo) rfl];obtain ⟨kind,bits,lanes,dst,args,a⟩:=o;obtain ⟨hm,f⟩:=zcI hs;dsimp only at *
 by_cases c : kind = 16
 ·subst c
  by_cases d1 : a = 0 <;> simp -implicitDefEqProofs only [go_sem,zo,zcF,zr,rs,arith,asks,d1]
 by_cases d : kind = 17
 ·subst d
  by_cases d1 : a = 0 <;> simp -implicitDefEqProofs only [go_sem,zo,zcF,zr,rs,arith,asks,d1]
 by_cases e : kind = 18
 ·subst e
  by_cases d1 : a = 0 <;> by_cases d2 : lanes = 1 <;> simp -implicitDefEqProofs only [go_sem,zo,zcF,zr,rs,arith,asks,d1,d2]
 by_cases b : kind = 19
 ·subst b
  by_cases d1 : a = 0 <;> by_cases d2 : lanes = 1 <;> simp -implicitDefEqProofs only [go_sem,zo,zcF,zr,rs,arith,asks,d1,d2]
 omega
end
end AC
