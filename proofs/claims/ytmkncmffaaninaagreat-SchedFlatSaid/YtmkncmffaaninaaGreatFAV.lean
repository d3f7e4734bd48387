/- A part of the proof of SchedFlat. Conditions: none. -/
import Derived.Test.YtmkncmffaaninaaGreatFAT
import Derived.Test.YtmkncmffaaninaaGreatFAU
set_option linter.all false
open Bool renaming or_eq_false_iff → ya
namespace AC
open Go Go.A Go.A.Lex
set_option maxHeartbeats 4000000
section
variable (o : POp) (hs : zds o.bits o.lanes = true) (ho : zBF o)
include hs ho
theorem zBq (p : arith o.kind = false) (n : asks o.kind = false) (c0 : ¬ o.kind = 0) (e : ¬ o.kind = 13) (h : ¬ o.kind = 14) (l : ¬ o.kind = 15) (j : ¬ o.kind = 16) (g : ¬ o.kind = 17) (k : ¬ o.kind = 18) (f : ¬ o.kind = 19) : call T 252 [vOp o] [] = some (zbT o,[]):=by
 rw [ze (fn:=zi) rfl];obtain ⟨kind,bits,lanes,dst,args,a⟩:=o;obtain ⟨hm,t⟩:=zfn hs;simp only [arith,ya,decide_eq_false_iff_not] at p;simp only [asks,ya,decide_eq_false_iff_not] at n;obtain ⟨⟨⟨⟨⟨⟨⟨u,n2⟩,q⟩,n5⟩,n6⟩,n7⟩,n8⟩,n9⟩:=p;obtain ⟨⟨⟨r,n10⟩,n11⟩,n12⟩:=n;dsimp only at *;have v : Go.IntKind.i64.wrap (min a 128) = min a 128:=wrap_i64 (by have:=ho.1; dsimp only at this; omega) (by omega)
 have s : Go.IntKind.u64.wrap bits = bits:=by
  have:=zcU hm;exact wrap_u64 (by omega) (by omega)
 have i : Go.IntKind.u64.wrap lanes = lanes:=wrap_u64 (by omega) (by omega)
 by_cases c : kind = 20
 ·subst c
  by_cases d1 : a = 0 <;> simp -implicitDefEqProofs only [go_sem,zi,zbT,zK,rs,arith,asks,d1]
 by_cases b : kind = 21
 ·subst b
  have m:=zoh (bits,1) lanes t;simp -implicitDefEqProofs only [go_sem,rs] at m
  by_cases d1 : a = 0 <;> simp -implicitDefEqProofs only [go_sem,zi,zbT,zK,rs,arith,asks,d1,m,List.map_replicate]
 by_cases d : kind = 22
 ·subst d
  by_cases d1 : lanes = 1
  ·simp -implicitDefEqProofs only [go_sem,zi,zbT,zK,rs,arith,asks,d1]
  ·simp -implicitDefEqProofs only [go_sem,zi,zbT,zK,rs,arith,asks,d1,i]
 simp -implicitDefEqProofs only [go_sem,zi,zbT,zK,rs,arith,asks,u,n2,q,r,n5,n6,n7,n8,n9,n10,n11,n12,c0,e,h,l,j,g,k,f,c,b,d]
theorem zDW (h : arith o.kind = false) (i : asks o.kind = false) : call T 252 [vOp o] [] = some (zbT o,[]):=by
 by_cases c0 : o.kind = 0
 ·exact zow o hs ho (.inl c0)
 by_cases c : o.kind = 13
 ·exact zow o hs ho (.inr (.inl c))
 by_cases e : o.kind = 14
 ·exact zow o hs ho (.inr (.inr (.inl e)))
 by_cases f : o.kind = 15
 ·exact zow o hs ho (.inr (.inr (.inr f)))
 by_cases g : o.kind = 16
 ·exact zot o hs ho (.inl g)
 by_cases d : o.kind = 17
 ·exact zot o hs ho (.inr (.inl d))
 by_cases b : o.kind = 18
 ·exact zot o hs ho (.inr (.inr (.inl b)))
 by_cases a : o.kind = 19
 ·exact zot o hs ho (.inr (.inr (.inr a)))
 exact zBq o hs ho h i c0 c e f g d b a
theorem zq4 : call T 252 [vOp o] [] = some (zbT o,[]):=by
 cases a : arith o.kind
 ·cases b : asks o.kind
  ·exact zDW o hs ho a b
  ·exact zDi o hs ho b
 ·exact zDC o hs ho a
end
end AC
