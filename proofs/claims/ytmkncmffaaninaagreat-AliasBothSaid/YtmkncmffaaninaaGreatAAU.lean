/- A part of the proof of AliasBoth. Conditions: none. -/
import Derived.Test.YtmkncmffaaninaaGreatAAS
import Derived.Test.YtmkncmffaaninaaGreatAAT
set_option linter.all false
open Bool renaming or_eq_false_iff → ya
namespace AC
open Go Go.A Go.A.Lex
set_option maxHeartbeats 4000000
section
variable (o : POp) (hs : zdl o.bits o.lanes = true) (ho : zzD o)
include hs ho
theorem zy6 (n : arith o.kind = false) (m : asks o.kind = false) (c0 : ¬ o.kind = 0) (l : ¬ o.kind = 13) (k : ¬ o.kind = 14) (i : ¬ o.kind = 15) (g : ¬ o.kind = 16) (j : ¬ o.kind = 17) (h : ¬ o.kind = 18) (e : ¬ o.kind = 19) : call T 252 [vOp o] [] = some (zbg o,[]):=by
 rw [zd (fn:=zi) rfl];obtain ⟨kind,bits,lanes,dst,args,a⟩:=o;obtain ⟨hm,t⟩:=zeg hs;simp only [arith,ya,decide_eq_false_iff_not] at n;simp only [asks,ya,decide_eq_false_iff_not] at m;obtain ⟨⟨⟨⟨⟨⟨⟨s,n2⟩,r⟩,n5⟩,n6⟩,n7⟩,n8⟩,n9⟩:=n;obtain ⟨⟨⟨q,n10⟩,n11⟩,n12⟩:=m;dsimp only at *;have v : Go.IntKind.i64.wrap (min a 128) = min a 128:=wrap_i64 (by have:=ho.1; dsimp only at this; omega) (by omega)
 have u : Go.IntKind.u64.wrap bits = bits:=by
  have:=zbM hm;exact wrap_u64 (by omega) (by omega)
 have f : Go.IntKind.u64.wrap lanes = lanes:=wrap_u64 (by omega) (by omega)
 by_cases b : kind = 20
 ·subst b
  by_cases d1 : a = 0 <;> simp -implicitDefEqProofs only [go_sem,zi,zbg,zV,rs,arith,asks,d1]
 by_cases c : kind = 21
 ·subst c
  have p:=zlL (bits,1) lanes t;simp -implicitDefEqProofs only [go_sem,rs] at p
  by_cases d1 : a = 0 <;> simp -implicitDefEqProofs only [go_sem,zi,zbg,zV,rs,arith,asks,d1,p,List.map_replicate]
 by_cases d : kind = 22
 ·subst d
  by_cases d1 : lanes = 1
  ·simp -implicitDefEqProofs only [go_sem,zi,zbg,zV,rs,arith,asks,d1]
  ·simp -implicitDefEqProofs only [go_sem,zi,zbg,zV,rs,arith,asks,d1,f]
 simp -implicitDefEqProofs only [go_sem,zi,zbg,zV,rs,arith,asks,s,n2,r,q,n5,n6,n7,n8,n9,n10,n11,n12,c0,l,k,i,g,j,h,e,b,c,d]
theorem zBm (i : arith o.kind = false) (h : asks o.kind = false) : call T 252 [vOp o] [] = some (zbg o,[]):=by
 by_cases c0 : o.kind = 0
 ·exact zl8 o hs ho (.inl c0)
 by_cases d : o.kind = 13
 ·exact zl8 o hs ho (.inr (.inl d))
 by_cases g : o.kind = 14
 ·exact zl8 o hs ho (.inr (.inr (.inl g)))
 by_cases e : o.kind = 15
 ·exact zl8 o hs ho (.inr (.inr (.inr e)))
 by_cases a : o.kind = 16
 ·exact zl5 o hs ho (.inl a)
 by_cases b : o.kind = 17
 ·exact zl5 o hs ho (.inr (.inl b))
 by_cases c : o.kind = 18
 ·exact zl5 o hs ho (.inr (.inr (.inl c)))
 by_cases f : o.kind = 19
 ·exact zl5 o hs ho (.inr (.inr (.inr f)))
 exact zy6 o hs ho i h c0 d g e a b c f
theorem zon : call T 252 [vOp o] [] = some (zbg o,[]):=by
 cases b : arith o.kind
 ·cases a : asks o.kind
  ·exact zBm o hs ho b a
  ·exact zAn o hs ho a
 ·exact zBn o hs ho b
end
end AC
