/- A part of the proof of AliasTells. Conditions: none. -/
import Derived.Test.YtmkncmffaaninaaGreatLAK
set_option linter.all false
namespace AC
open Go Go.A Go.A.Lex
set_option maxHeartbeats 4000000
section
variable (o : POp) (hs : zdS o.bits o.lanes = true) (ho : zFs o)
include hs ho
theorem zqF (h : o.kind = 0 ∨ o.kind = 13 ∨ o.kind = 14 ∨ o.kind = 15) : call T 252 [vOp o] [] = some (zcF o,[]):=by
 rw [ze (fn:=zo) rfl];obtain ⟨kind,bits,lanes,dst,args,a⟩:=o;obtain ⟨hm,j⟩:=zcI hs;dsimp only at *
 by_cases c0 : kind = 0
 ·subst c0
  have:=ztT a bits ho.1 ho.2;simp -implicitDefEqProofs only [go_sem] at this;simp -implicitDefEqProofs only [go_sem,zo,zcF,zr,rs,this]
 by_cases g : kind = 13
 ·subst g
  simp -implicitDefEqProofs only [go_sem,zo,zcF,zr,rs,arith,asks]
 have b : Go.IntKind.i64.wrap (min a 128) = min a 128:=wrap_i64 (by have:=ho.1; dsimp only at this; omega) (by omega)
 have c : Go.IntKind.u64.wrap bits = bits:=by
  have:=zaW hm;exact wrap_u64 (by omega) (by omega)
 have i : Go.IntKind.u64.wrap lanes = lanes:=wrap_u64 (by omega) (by omega)
 by_cases e : kind = 14
 ·subst e
  by_cases d1 : lanes = 1
  ·by_cases d2 : a < bits
   ·have d : Go.IntKind.i64.wrap a = a:=wrap_i64 (by have:=ho.1; dsimp only at this; omega) (by have:=zaW hm; omega)
    simp -implicitDefEqProofs only [go_sem,zo,zcF,zr,rs,arith,asks,d1,d2,b,c,d]
   ·simp -implicitDefEqProofs only [go_sem,zo,zcF,zr,rs,arith,asks,d1,d2,b,c]
  ·simp -implicitDefEqProofs only [go_sem,zo,zcF,zr,rs,arith,asks,d1,b]
 by_cases f : kind = 15
 ·subst f
  by_cases d1 : lanes = 1
  ·by_cases d2 : bits < a
   ·by_cases d3 : a ≤ 64
    ·have d : Go.IntKind.i64.wrap a = a:=wrap_i64 (by have:=ho.1; dsimp only at this; omega) (by omega)
     simp -implicitDefEqProofs only [go_sem,zo,zcF,zr,rs,arith,asks,d1,d2,d3,b,c,d]
    ·simp -implicitDefEqProofs only [go_sem,zo,zcF,zr,rs,arith,asks,d1,d2,d3,b,c]
   ·simp -implicitDefEqProofs only [go_sem,zo,zcF,zr,rs,arith,asks,d1,d2,b,c]
  ·simp -implicitDefEqProofs only [go_sem,zo,zcF,zr,rs,arith,asks,d1,b]
 omega
end
end AC
