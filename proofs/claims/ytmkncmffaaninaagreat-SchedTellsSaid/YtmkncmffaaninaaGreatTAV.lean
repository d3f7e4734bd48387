/- A part of the proof of SchedTells. Conditions: none. -/
import Derived.Test.YtmkncmffaaninaaGreatTAT
import Derived.Test.YtmkncmffaaninaaGreatTAU
set_option linter.all false
open Bool renaming or_eq_false_iff → ya
namespace AC
open Go Go.A Go.A.Lex
set_option maxHeartbeats 4000000
section
variable (o : POp) (hs : zdQ o.bits o.lanes = true) (ho : zDi o)
include hs ho
theorem zDE (m : arith o.kind = false) (n : asks o.kind = false) (c0 : ¬ o.kind = 0) (f : ¬ o.kind = 13) (k : ¬ o.kind = 14) (h : ¬ o.kind = 15) (e : ¬ o.kind = 16) (i : ¬ o.kind = 17) (g : ¬ o.kind = 18) (l : ¬ o.kind = 19) : call T 252 [vOp o] [] = some (zcO o,[]):=by
 rw [ze (fn:=zk) rfl];obtain ⟨kind,bits,lanes,dst,args,a⟩:=o;obtain ⟨hm,q⟩:=zf9 hs;simp only [arith,ya,decide_eq_false_iff_not] at m;simp only [asks,ya,decide_eq_false_iff_not] at n;obtain ⟨⟨⟨⟨⟨⟨⟨v,n2⟩,s⟩,n5⟩,n6⟩,n7⟩,n8⟩,n9⟩:=m;obtain ⟨⟨⟨t,n10⟩,n11⟩,n12⟩:=n;dsimp only at *;have u : Go.IntKind.i64.wrap (min a 128) = min a 128:=wrap_i64 (by have:=ho.1; dsimp only at this; omega) (by omega)
 have r : Go.IntKind.u64.wrap bits = bits:=by
  have:=zdg hm;exact wrap_u64 (by omega) (by omega)
 have j : Go.IntKind.u64.wrap lanes = lanes:=wrap_u64 (by omega) (by omega)
 by_cases c : kind = 20
 ·subst c
  by_cases d1 : a = 0 <;> simp -implicitDefEqProofs only [go_sem,zk,zcO,zO,rs,arith,asks,d1]
 by_cases b : kind = 21
 ·subst b
  have p:=zpk (bits,1) lanes q;simp -implicitDefEqProofs only [go_sem,rs] at p
  by_cases d1 : a = 0 <;> simp -implicitDefEqProofs only [go_sem,zk,zcO,zO,rs,arith,asks,d1,p,List.map_replicate]
 by_cases d : kind = 22
 ·subst d
  by_cases d1 : lanes = 1
  ·simp -implicitDefEqProofs only [go_sem,zk,zcO,zO,rs,arith,asks,d1]
  ·simp -implicitDefEqProofs only [go_sem,zk,zcO,zO,rs,arith,asks,d1,j]
 simp -implicitDefEqProofs only [go_sem,zk,zcO,zO,rs,arith,asks,v,n2,s,t,n5,n6,n7,n8,n9,n10,n11,n12,c0,f,k,h,e,i,g,l,c,b,d]
theorem zFe (i : arith o.kind = false) (h : asks o.kind = false) : call T 252 [vOp o] [] = some (zcO o,[]):=by
 by_cases c0 : o.kind = 0
 ·exact zpw o hs ho (.inl c0)
 by_cases d : o.kind = 13
 ·exact zpw o hs ho (.inr (.inl d))
 by_cases b : o.kind = 14
 ·exact zpw o hs ho (.inr (.inr (.inl b)))
 by_cases c : o.kind = 15
 ·exact zpw o hs ho (.inr (.inr (.inr c)))
 by_cases a : o.kind = 16
 ·exact zpr o hs ho (.inl a)
 by_cases f : o.kind = 17
 ·exact zpr o hs ho (.inr (.inl f))
 by_cases g : o.kind = 18
 ·exact zpr o hs ho (.inr (.inr (.inl g)))
 by_cases e : o.kind = 19
 ·exact zpr o hs ho (.inr (.inr (.inr e)))
 exact zDE o hs ho i h c0 d b c a f g e
theorem zsg : call T 252 [vOp o] [] = some (zcO o,[]):=by
 cases a : arith o.kind
 ·cases b : asks o.kind
  ·exact zFe o hs ho a b
  ·exact zEJ o hs ho b
 ·exact zFB o hs ho a
end
end AC
