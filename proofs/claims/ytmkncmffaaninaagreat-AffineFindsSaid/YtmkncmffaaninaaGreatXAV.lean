/- A part of the proof of AffineFinds. Conditions: none. -/
import Derived.Test.YtmkncmffaaninaaGreatXAT
import Derived.Test.YtmkncmffaaninaaGreatXAU
set_option linter.all false
open Bool renaming or_eq_false_iff → ya
namespace AC
open Go Go.A Go.A.Lex
set_option maxHeartbeats 4000000
section
variable (o : POp) (hs : zdT o.bits o.lanes = true) (ho : zEI o)
include hs ho
theorem zFc (n : arith o.kind = false) (p : asks o.kind = false) (c0 : ¬ o.kind = 0) (k : ¬ o.kind = 13) (h : ¬ o.kind = 14) (l : ¬ o.kind = 15) (i : ¬ o.kind = 16) (e : ¬ o.kind = 17) (j : ¬ o.kind = 18) (g : ¬ o.kind = 19) : call T 252 [vOp o] [] = some (zcE o,[]):=by
 rw [ze (fn:=zn) rfl];obtain ⟨kind,bits,lanes,dst,args,a⟩:=o;obtain ⟨hm,u⟩:=zfV hs;simp only [arith,ya,decide_eq_false_iff_not] at n;simp only [asks,ya,decide_eq_false_iff_not] at p;obtain ⟨⟨⟨⟨⟨⟨⟨t,n2⟩,q⟩,n5⟩,n6⟩,n7⟩,n8⟩,n9⟩:=n;obtain ⟨⟨⟨v,n10⟩,n11⟩,n12⟩:=p;dsimp only at *;have s : Go.IntKind.i64.wrap (min a 128) = min a 128:=wrap_i64 (by have:=ho.1; dsimp only at this; omega) (by omega)
 have r : Go.IntKind.u64.wrap bits = bits:=by
  have:=zds hm;exact wrap_u64 (by omega) (by omega)
 have f : Go.IntKind.u64.wrap lanes = lanes:=wrap_u64 (by omega) (by omega)
 by_cases b : kind = 20
 ·subst b
  by_cases d1 : a = 0 <;> simp -implicitDefEqProofs only [go_sem,zn,zcE,zY,rs,arith,asks,d1]
 by_cases c : kind = 21
 ·subst c
  have m:=zpi (bits,1) lanes u;simp -implicitDefEqProofs only [go_sem,rs] at m
  by_cases d1 : a = 0 <;> simp -implicitDefEqProofs only [go_sem,zn,zcE,zY,rs,arith,asks,d1,m,List.map_replicate]
 by_cases d : kind = 22
 ·subst d
  by_cases d1 : lanes = 1
  ·simp -implicitDefEqProofs only [go_sem,zn,zcE,zY,rs,arith,asks,d1]
  ·simp -implicitDefEqProofs only [go_sem,zn,zcE,zY,rs,arith,asks,d1,f]
 simp -implicitDefEqProofs only [go_sem,zn,zcE,zY,rs,arith,asks,t,n2,q,v,n5,n6,n7,n8,n9,n10,n11,n12,c0,k,h,l,i,e,j,g,b,c,d]
theorem zGs (h : arith o.kind = false) (i : asks o.kind = false) : call T 252 [vOp o] [] = some (zcE o,[]):=by
 by_cases c0 : o.kind = 0
 ·exact zpE o hs ho (.inl c0)
 by_cases e : o.kind = 13
 ·exact zpE o hs ho (.inr (.inl e))
 by_cases b : o.kind = 14
 ·exact zpE o hs ho (.inr (.inr (.inl b)))
 by_cases f : o.kind = 15
 ·exact zpE o hs ho (.inr (.inr (.inr f)))
 by_cases c : o.kind = 16
 ·exact zpp o hs ho (.inl c)
 by_cases a : o.kind = 17
 ·exact zpp o hs ho (.inr (.inl a))
 by_cases d : o.kind = 18
 ·exact zpp o hs ho (.inr (.inr (.inl d)))
 by_cases g : o.kind = 19
 ·exact zpp o hs ho (.inr (.inr (.inr g)))
 exact zFc o hs ho h i c0 e b f c a d g
theorem zr4 : call T 252 [vOp o] [] = some (zcE o,[]):=by
 cases a : arith o.kind
 ·cases b : asks o.kind
  ·exact zGs o hs ho a b
  ·exact zGD o hs ho b
 ·exact zGT o hs ho a
end
end AC
