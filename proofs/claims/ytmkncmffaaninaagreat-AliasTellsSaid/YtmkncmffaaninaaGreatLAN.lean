/- A part of the proof of AliasTells. Conditions: none. -/
import Derived.Test.YtmkncmffaaninaaGreatLAL
import Derived.Test.YtmkncmffaaninaaGreatLAM
set_option linter.all false
open Bool renaming or_eq_false_iff → ya
namespace AC
open Go Go.A Go.A.Lex
set_option maxHeartbeats 4000000
section
variable (o : POp) (hs : zdS o.bits o.lanes = true) (ho : zFs o)
include hs ho
theorem zGK (p : arith o.kind = false) (n : asks o.kind = false) (c0 : ¬ o.kind = 0) (l : ¬ o.kind = 13) (g : ¬ o.kind = 14) (i : ¬ o.kind = 15) (j : ¬ o.kind = 16) (k : ¬ o.kind = 17) (h : ¬ o.kind = 18) (e : ¬ o.kind = 19) : call T 252 [vOp o] [] = some (zcF o,[]):=by
 rw [ze (fn:=zo) rfl];obtain ⟨kind,bits,lanes,dst,args,a⟩:=o;obtain ⟨hm,v⟩:=zcI hs;simp only [arith,ya,decide_eq_false_iff_not] at p;simp only [asks,ya,decide_eq_false_iff_not] at n;obtain ⟨⟨⟨⟨⟨⟨⟨t,n2⟩,s⟩,n5⟩,n6⟩,n7⟩,n8⟩,n9⟩:=p;obtain ⟨⟨⟨q,n10⟩,n11⟩,n12⟩:=n;dsimp only at *;have u : Go.IntKind.i64.wrap (min a 128) = min a 128:=wrap_i64 (by have:=ho.1; dsimp only at this; omega) (by omega)
 have r : Go.IntKind.u64.wrap bits = bits:=by
  have:=zaW hm;exact wrap_u64 (by omega) (by omega)
 have f : Go.IntKind.u64.wrap lanes = lanes:=wrap_u64 (by omega) (by omega)
 by_cases b : kind = 20
 ·subst b
  by_cases d1 : a = 0 <;> simp -implicitDefEqProofs only [go_sem,zo,zcF,zr,rs,arith,asks,d1]
 by_cases c : kind = 21
 ·subst c
  have m:=zqk (bits,1) lanes v;simp -implicitDefEqProofs only [go_sem,rs] at m
  by_cases d1 : a = 0 <;> simp -implicitDefEqProofs only [go_sem,zo,zcF,zr,rs,arith,asks,d1,m,List.map_replicate]
 by_cases d : kind = 22
 ·subst d
  by_cases d1 : lanes = 1
  ·simp -implicitDefEqProofs only [go_sem,zo,zcF,zr,rs,arith,asks,d1]
  ·simp -implicitDefEqProofs only [go_sem,zo,zcF,zr,rs,arith,asks,d1,f]
 simp -implicitDefEqProofs only [go_sem,zo,zcF,zr,rs,arith,asks,t,n2,s,q,n5,n6,n7,n8,n9,n10,n11,n12,c0,l,g,i,j,k,h,e,b,c,d]
theorem zIu (h : arith o.kind = false) (i : asks o.kind = false) : call T 252 [vOp o] [] = some (zcF o,[]):=by
 by_cases c0 : o.kind = 0
 ·exact zqF o hs ho (.inl c0)
 by_cases e : o.kind = 13
 ·exact zqF o hs ho (.inr (.inl e))
 by_cases f : o.kind = 14
 ·exact zqF o hs ho (.inr (.inr (.inl f)))
 by_cases c : o.kind = 15
 ·exact zqF o hs ho (.inr (.inr (.inr c)))
 by_cases b : o.kind = 16
 ·exact zqJ o hs ho (.inl b)
 by_cases d : o.kind = 17
 ·exact zqJ o hs ho (.inr (.inl d))
 by_cases g : o.kind = 18
 ·exact zqJ o hs ho (.inr (.inr (.inl g)))
 by_cases a : o.kind = 19
 ·exact zqJ o hs ho (.inr (.inr (.inr a)))
 exact zGK o hs ho h i c0 e f c b d g a
theorem ztB : call T 252 [vOp o] [] = some (zcF o,[]):=by
 cases b : arith o.kind
 ·cases a : asks o.kind
  ·exact zIu o hs ho b a
  ·exact zIF o hs ho a
 ·exact zH5 o hs ho b
end
end AC
