/- A part of the proof of SchedBack. Conditions: none. -/
import Derived.Test.YtmkncmffaaninaaGreatBAW
import Derived.Test.YtmkncmffaaninaaGreatBAS
import Derived.Test.YtmkncmffaaninaaGreatBAV
set_option linter.unusedVariables false
set_option linter.unusedSimpArgs false
set_option linter.unusedSectionVars false
open List renaming getD_eq_getElem?_getD → ya,getElem?_eq_none → yb,getElem?_eq_getElem → yc,count_cons → yf,mem_cons_self → yg,ext_getElem? → yh,mem_cons_of_mem → yi,eq_nil_of_length_eq_zero → yj,getElem?_eq_some_iff → yl,length_set → ym,getElem?_replicate → yn,getElem?_set → yo,all_eq_true → yp,foldl_cons → ys,getD_cons_zero → yt,mem_cons → yx,count_set → yz,map_set → yC,map → yD
open Bool renaming and_eq_true → yd,not_eq_true' → yk,or_eq_false_iff → yr,not_eq_true → yy
open Int renaming toNat_natCast → ye,natCast_zero → yu
open Nat renaming add_comm → yq,add_zero → yv,zero_add → yw,zero_le → yB
open Option renaming getD_some → yA
namespace AC
open Go Go.A Go.A.Lex
attribute [go_sem] zur O0 O2 P1 xS zS sD stD cM
def zoF (f : PFunc) : zhW × Option (List Ob):=zcw 0 (zcy 0 [] f.params) f.blocks
theorem zob (o : POp) : (zbd o).length ≤ o.args.length:=by
 unfold zbd
 split
 ·rename_i h
  simp only [zgE,yd,decide_eq_true_eq] at h
  omega
 ·simp
theorem zjN (pred : List (List Int)) (tree : List Int) : ∀ (l : List PBlock) (i : Nat),zcq pred tree i l = true → ∀ k (hk : k < l.length),zn6 pred tree (i + k) l[k] = true
 | [],_,_,k,hk => by simp at hk
 | b :: r,i,h,k,hk => by
   simp only [zcq,yd] at h
   cases k with
   | zero => exact h.1
   | succ k =>
     have:=zjN pred tree r (i + 1) h.2 k (by simpa using hk)
     simpa [Nat.add_assoc,yq 1 k] using this
theorem zuZ {f : PFunc} {pred : List (List Int)} {tree : List Int} (h : zcq pred tree 0 f.blocks = true) : ∀ b ∈ f.blocks,znL b:=fun b hb => by
 obtain ⟨k,hk,rfl⟩:=List.getElem_of_mem hb
 have:=zjN pred tree f.blocks 0 h k hk
 simp only [zn6,yd,yp] at this
 refine ⟨fun p hp => ?_,fun o _ => zob o⟩
 have:=this.2.1 p hp
 simp only [zli,yd,decide_eq_true_eq] at this
 exact this.2
theorem zAu (f : PFunc) (level : Int) (succ pred : List (List Int)) (tree : List Int) (D : zhW) : Ok (sD f level succ pred tree D []):=by
 unfold Ok
 simp -implicitDefEqProofs only [go_sem,stD,zK]
theorem zuw (f : PFunc) (level : Int) (succ pred : List (List Int)) (tree : List Int) (D : zhW) : Ok (sD f level succ pred tree D [P1]):=by
 unfold Ok
 simp -implicitDefEqProofs only [go_sem,stD,zK]
section
variable (f : PFunc) (hf : okF f) (level : Int) (succ pred : List (List Int)) (tree : List Int) (hab : ∀ b ∈ f.blocks,znL b)
include hf hab
theorem zqn : call T 161 [.one (.ptr 1 0 0 0)] [O0 f,zur f level (xS succ) (xS pred) (zS tree) (.f (.lit (.map none))),O2] =
  some (vI (match zoF f with | (D,none) => zG (zik D) (zdd f) | (_,some _) => 7),sD f level succ pred tree (zoF f).1 []):=by
 rw [ze (fn:=zaJ) rfl]
 have q0:=fun a0 a2 a3 a4 a5 a6 a7 a8 a9 a10 a11 a15 a16 a17 a18 a19 a20 a21 a22 a23 a24 a25 a26 a27 a28 a29 => ztl f hf level succ pred tree f.params.length 0 [] a0 a2 a3 a4 a5 a6 a7 a8 a9 a10 a11 a15 a16 a17 a18 a19 a20 a21 a22 a23 a24 a25 a26 a27 a28 a29 (by omega) (by omega)
 have q3:=fun a0 a2 a3 a4 a5 a6 a7 a8 a9 a10 a11 a12 a13 a14 a15 a19 a20 a21 a22 a23 a24 a25 a26 a27 a28 a29 => ztH f hf level succ pred tree f.blocks.length 0 (zcy 0 [] f.params) a0 a2 a3 a4 a5 a6 a7 a8 a9 a10 a11 a12 a13 a14 a15 a19 a20 a21 a22 a23 a24 a25 a26 a27 a28 a29 (by omega) (by omega)
 have en : zgu zfr [] = []:=rfl
 simp only [List.drop_zero,yu] at q0 q3
 have ed : zoF f = zcw 0 (zcy 0 [] f.params) f.blocks:=rfl
 rw [ed]
 rcases e : zcw 0 (zcy 0 [] f.params) f.blocks with ⟨D,_ | G⟩
 ·have hu:=zl6 f level (xS succ) (xS pred) (zS tree) (.map 4) 208 [.ptr 3 0 0 0] (sD f level succ pred tree D []) rfl (zAu _ _ _ _ _ _) rfl (zik D)
   (fun r u hr => zni f level succ pred tree D r (by simpa [yq] using hr) u) hf hab
  simp -implicitDefEqProofs only [go_sem,stD,e,en] at q0 q3 hu
  simp -implicitDefEqProofs only [go_sem,zaJ,q0,q3,hu,zK,e]
 ·simp -implicitDefEqProofs only [go_sem,stD,e,en] at q0 q3
  simp -implicitDefEqProofs only [go_sem,zaJ,q0,q3,zK,e,Nat.add_le_add_iff_right]
  by_cases hG : G.length ≤ 0
  ·have : G = []:=yj (by omega)
   subst this
   rfl
  ·rw [if_neg hG]
   rfl
theorem zrk (D : zhW) : call T 162 [.one (.ptr 1 0 0 0)] (sD f level succ pred tree D []) = some (vI (zG (zbi D) (zdd f)),sD f level succ pred tree D []):=by
 rw [ze (fn:=zcg) rfl]
 have hu:=zl6 f level (xS succ) (xS pred) (zS tree) (.map 4) 209 [.ptr 5 0 0 0] (sD f level succ pred tree D [P1]) rfl (zuw _ _ _ _ _ _) rfl (zbi D)
  (fun r u hr => zop f level succ pred tree D r (by simpa [yq] using hr) u) hf hab
 simp -implicitDefEqProofs only [go_sem,stD] at hu
 simp -implicitDefEqProofs only [go_sem,zcg,stD,hu,zK]
theorem zrH (htl : tree.length ≤ 4294967296) (D : zhW) : call T 163 [.one (.ptr 1 0 0 0)] (sD f level succ pred tree D []) = some (vI (zG (zax D tree) (zdd f)),sD f level succ pred tree D []):=by
 rw [ze (fn:=zb8) rfl]
 have hu:=zl6 f level (xS succ) (xS pred) (zS tree) (.map 4) 210 [.ptr 5 0 0 0] (sD f level succ pred tree D [P1]) rfl (zuw _ _ _ _ _ _) rfl (zax D tree)
  (fun r u hr => zoT f level succ pred tree D r (by simpa [yq] using hr) htl u) hf hab
 simp -implicitDefEqProofs only [go_sem,stD] at hu
 simp -implicitDefEqProofs only [go_sem,zb8,stD,hu,zK]
end
def ziw (f : PFunc) (level : Int) (tree : List Int) : Int :=
 if zn2 f = false then 4 else if zed f tree = false then 5 else if zeE f level = false then 6 else
 match zoF f with
 | (_,some _) => 7
 | (D,none) => if zG (zik D) (zdd f) ≠ 0 then zG (zik D) (zdd f) else if zG (zbi D) (zdd f) ≠ 0 then zG (zbi D) (zdd f) else zG (zax D tree) (zdd f)
def zp8 (f : PFunc) (tree : List Int) : Prop:=tree.length ≤ 4294967296 ∧ (za5 f = true → call T 195 [.agg [.f (.sl ((zI f).map rl)),.f (.sl ((zam (zI f)).map rl))],vI 0] [] = some (vIs tree,[]))
theorem n5 : ((5 : Nat) : Int) = 5:=rfl
theorem wr1 : Go.IntKind.i64.wrap 1 = 1:=by decide
theorem wr2 : Go.IntKind.i64.wrap 2 = 2:=by decide
theorem wr3 : Go.IntKind.i64.wrap 3 = 3:=by decide
theorem wr4 : Go.IntKind.i64.wrap 4 = 4:=by decide
theorem wr5 : Go.IntKind.i64.wrap 5 = 5:=by decide
attribute [go_sem] n5 wr1 wr2 wr3 wr4 wr5
set_option maxRecDepth 10000 in
theorem zwP (f : PFunc) (hf : okF f) (level : Int) (tree : List Int) (hT : zp8 f tree) : ∃ σ',call T 110 [zgP f,vI level] [] = some (.tup [.one (.ptr 1 0 0 0),vI (ziw f level tree)],σ') ∧ (ziw f level tree = 0 → σ' = sD f level (zI f) (zam (zI f)) tree (zoF f).1 []):=by
 rw [ze (fn:=zah) rfl]
 have hm:=zoZ f hf
 cases e0 : zn2 f
 ·rw [e0] at hm
  simp -implicitDefEqProofs only [go_sem] at hm
  simp -implicitDefEqProofs only [go_sem,zah,hm,ziw,e0]
  exact ⟨_,rfl,fun h => by first | exact h.elim | simp at h⟩
 rw [e0] at hm
 cases e1 : za5 f
 ·have hs:=zm6 f hf level e1
  have e2 : zed f tree = false:=by simp [zed,e1]
  simp -implicitDefEqProofs only [go_sem] at hm hs
  simp -implicitDefEqProofs only [go_sem,zah,hm,ziw,e0,e2,xl zaH rfl,zaI,hs]
  exact ⟨_,rfl,fun h => by first | exact h.elim | simp at h⟩
 have hs:=zo3 f hf level e1 tree hT.1 (hT.2 e1)
 cases e2 : zcq (zam (zI f)) tree 0 f.blocks
 ·have e2' : zed f tree = false:=by simp [zed,e2]
  rw [e2] at hs
  simp -implicitDefEqProofs only [go_sem] at hm hs
  simp -implicitDefEqProofs only [go_sem,zah,hm,ziw,e0,e2',xl zaH rfl,zaI,hs]
  exact ⟨_,rfl,fun h => by first | exact h.elim | simp at h⟩
 have e2' : zed f tree = true:=by simp [zed,e1,e2]
 have hab:=zuZ e2
 have ht:=zud f level (xS (zI f)) (xS (zam (zI f))) (zS tree) (.f (.lit (.map none))) [O0 f,zur f level (xS (zI f)) (xS (zam (zI f))) (zS tree) (.f (.lit (.map none))),O2] rfl (by unfold Ok; simp -implicitDefEqProofs only [go_sem]) hf
 rw [e2] at hs
 cases e3 : zeE f level
 ·rw [e3] at ht
  simp -implicitDefEqProofs only [go_sem] at hm hs ht
  simp -implicitDefEqProofs only [go_sem,zah,hm,ziw,e0,e2',e3,xl zaH rfl,zaI,hs,ht]
  exact ⟨_,rfl,fun h => by first | exact h.elim | simp at h⟩
 rw [e3] at ht
 have hd:=zqn f hf level (zI f) (zam (zI f)) tree hab
 rcases e4 : zoF f with ⟨D,_ | G⟩
 ·rw [e4] at hd
  by_cases e5 : zG (zik D) (zdd f) = 0
  ·have hsh:=zrk f hf level (zI f) (zam (zI f)) tree hab D
   by_cases e6 : zG (zbi D) (zdd f) = 0
   ·have hpl:=zrH f hf level (zI f) (zam (zI f)) tree hab hT.1 D
    by_cases e7 : zG (zax D tree) (zdd f) = 0
    ·simp -implicitDefEqProofs only [go_sem,e5,e6,e7] at hm hs ht hd hsh hpl
     simp -implicitDefEqProofs only [go_sem,zah,hm,ziw,e0,e2',e3,e4,e5,e6,e7,xl zaH rfl,zaI,hs,ht,hd,hsh,hpl,zK,ne_eq]
     exact ⟨_,rfl,fun _ => rfl⟩
    ·simp -implicitDefEqProofs only [go_sem,e5,e6] at hm hs ht hd hsh hpl
     simp -implicitDefEqProofs only [go_sem,zah,hm,ziw,e0,e2',e3,e4,e5,e6,e7,xl zaH rfl,zaI,hs,ht,hd,hsh,hpl,zK,ne_eq]
     exact ⟨_,rfl,fun h => by first | exact absurd h e7 | exact h.elim⟩
   ·simp -implicitDefEqProofs only [go_sem,e5] at hm hs ht hd hsh
    simp -implicitDefEqProofs only [go_sem,zah,hm,ziw,e0,e2',e3,e4,e5,e6,xl zaH rfl,zaI,hs,ht,hd,hsh,zK,ne_eq]
    exact ⟨_,rfl,fun h => by first | exact absurd h e6 | exact h.elim⟩
  ·simp -implicitDefEqProofs only [go_sem] at hm hs ht hd
   simp -implicitDefEqProofs only [go_sem,zah,hm,ziw,e0,e2',e3,e4,e5,xl zaH rfl,zaI,hs,ht,hd,zK,ne_eq]
   exact ⟨_,rfl,fun h => by first | exact absurd h e5 | exact h.elim⟩
 ·rw [e4] at hd
  simp -implicitDefEqProofs only [go_sem] at hm hs ht hd
  simp -implicitDefEqProofs only [go_sem,zah,hm,ziw,e0,e2',e3,e4,xl zaH rfl,zaI,hs,ht,hd,zK,ne_eq]
  exact ⟨_,rfl,fun h => by first | exact h.elim | simp at h⟩
end AC
namespace AC
open Go Go.A Go.A.Lex
def zmH (f : PFunc) (level : Int) (tree : List Int) : Int:=if level < 0 ∨ 2 < level then 1 else ziw f level tree
@[go_sem] theorem ztm (f : PFunc) (hf : okF f) (level : Int) (tree : List Int) (hT : zp8 f tree) : call T 51 [zgP f,vI level] [] = some (vI (zmH f level tree),[]):=by
  rw [ze (fn:=zdo) rfl]
  by_cases c1 : level < 0
  ·simp -implicitDefEqProofs only [go_sem,zdo,zmH,c1]
  by_cases c2 : 2 < level
  ·simp -implicitDefEqProofs only [go_sem,zdo,zmH,c1,c2]
  obtain ⟨σ',h,_⟩:=zwP f hf level tree hT
  simp -implicitDefEqProofs only [go_sem] at h
  simp -implicitDefEqProofs only [go_sem,zdo,zmH,c1,c2,h]
end AC
namespace AC
open Go Go.A Go.A.Lex
section
variable (f : PFunc) (hf : okF f)
include hf
end
end AC
namespace AC
open Go Go.A Go.A.Lex
theorem znI {f : PFunc} (h : zn2 f = true) : 1 ≤ f.blocks.length ∧ f.blocks.length ≤ 64 ∧ f.params.length ≤ 16 ∧ zky f ≤ 512 ∧ ∀ b ∈ f.blocks,zrg b = true:=by
 unfold zn2 at h
 simp only [yd,yk,yr,decide_eq_false_iff_not,yp] at h
 exact ⟨by omega,by omega,by omega,by omega,h.2⟩
theorem zqp {l : List Int} (h : zgC l = true) : l.length ≤ 64:=by
 unfold zgC at h
 simp only [yd,decide_eq_true_eq] at h
 exact h.1
theorem ztu {b : PBlock} (h : zrg b = true) : (∀ p ∈ b.phis,p.args.length ≤ 64) ∧ ∀ o ∈ b.ops,o.args.length ≤ 64:=by
 unfold zrg at h
 simp only [yd,yp] at h
 refine ⟨fun p hp => ?_,fun o ho => ?_⟩
 ·have:=h.1 p hp
  unfold zlQ at this
  simp only [yd] at this
  exact zqp this.2.2
 ·have:=h.2.1 o ho
  unfold zrL at this
  simp only [yd] at this
  exact zqp this.2
def zf1 (f : PFunc) : List Use:=(zdd f).map zey
def zdl (f : PFunc) (level : Int) : Int :=
 if level < 0 ∨ 2 < level then 1 else if zn2 f = false then 4 else if zhg f = false then 5 else if zeE f level = false then 6 else
 if zfK (zO f) 0 (zO f) = false then 7 else if (zf1 f).all (zng (zO f)) = false then 7 else if (zf1 f).all (sameShape (zO f)) = false then 6 else
 if (zf1 f).all (zgV (zO f) (zjk (zI f) 0)) = false then 7 else 0
end AC
namespace AC
open Dm
section
variable {succ : List (List Int)} {root : Nat} {O : Int → Prop} {pos : Int → Nat} {t : List Int} (Q : TreeOf succ root O pos t)
include Q
theorem zj2 : (root : Int) < (succ.length : Int):=(Q.rng _ Q.ord.rt).2
theorem zmo {x : Int} (hx : 0 ≤ x) : tr (t.set root (-1)) x = if x = (root : Int) then -1 else tr t x:=by
 have:=zsw (t:=t) (x:=(root : Int)) (-1) ⟨by omega,by rw [Q.len]; exact zj2 Q⟩ hx
 rwa [ye] at this
theorem zCe {x : Int} (h : O x) : tf t x ≠ -2:=zzH Q.ord Q.inv Q.st h
theorem zqO {x : Int} (h : O x) (hx : x ≠ (root : Int)) : tr (t.set root (-1)) x = tf t x ∧ O (tf t x) ∧ pos (tf t x) < pos x ∧ tf t x ≠ -1:=by
 have rx:=Q.rng x h
 obtain ⟨h1,h2⟩:=Q.inv.par x hx (zCe Q h)
 have h3:=zgB Q.ord Q.inv h1
 exact ⟨by rw [zmo Q rx.1,if_neg hx,zrX rx.1],h3,h2,by have:=(Q.rng _ h3).1; omega⟩
theorem zu1 {x : Int} (h : ¬ O x) (h0 : 0 ≤ x) : tr (t.set root (-1)) x = -2:=by
 rw [zmo Q h0,if_neg (by rintro rfl; exact h Q.ord.rt),← zrX h0]
 exact Q.inv.out x h
theorem zim : (t.set root (-1)).length = succ.length:=by simp [Q.len]
theorem zBX : ∀ (r : Nat) (x k : Int),O x → pos x < r → ∃ m,zT (t.set root (-1)) r k x = some m ∧ k ≤ m:=by
 intro r
 induction r with
 | zero => intro x k _ h; omega
 | succ r ih =>
   intro x k hx hp
   have rx:=Q.rng x hx
   rw [zT,if_neg (by omega),if_neg (by rw [zim Q]; omega)]
   by_cases c : x = (root : Int)
   ·rw [if_pos (by rw [zmo Q rx.1,if_pos c])]
    exact ⟨k,rfl,Int.le_refl _⟩
   ·obtain ⟨h1,h2,h3,h4⟩:=zqO Q hx c
    rw [h1,if_neg h4]
    obtain ⟨m,m1,m2⟩:=ih _ (k + 1) h2 (by omega)
    exact ⟨m,m1,by omega⟩
theorem zm4 {x : Int} (h : O x) : 0 ≤ zA (t.set root (-1)) x:=by
 obtain ⟨m,h1,h2⟩:=zBX Q (t.set root (-1)).length x 0 h (by rw [zim Q]; exact Q.low x h)
 rw [zA,h1]
 exact h2
theorem zAG {x : Int} (h : ¬ O x) : zA (t.set root (-1)) x < 0:=by
 by_cases c : 0 ≤ zA (t.set root (-1)) x
 ·have r:=zeI c
  have e:=zu1 Q h r.1
  by_cases z : zA (t.set root (-1)) x = 0
  ·have:=zez z
   omega
  ·have:=zc0 c (by omega)
   rw [e] at this
   have h2:=zeI (t:=t.set root (-1)) (a:=-2) (by omega)
   omega
 ·omega
theorem zvN (x : Int) : 0 ≤ zA (t.set root (-1)) x ↔ O x:=by
 by_cases h : O x
 ·exact ⟨fun _ => h,fun _ => zm4 Q h⟩
 ·exact ⟨fun c => absurd c (by have:=zAG Q h; omega),fun c => absurd c h⟩
omit Q in
theorem zkK {tree : List Int} : ∀ (l : List Int) (k m : Nat),(∀ j x,l[j]? = some x → x ≠ -2 → 0 ≤ zA tree ((k + j : Nat) : Int)) → zbf tree k m l = some (m + l.count (-1))
 | [],_,_,_ => by simp [zbf]
 | x :: l,k,m,h => by
   have hr:=fun m' => zkK l (k + 1) m' fun j y hj hy => by
    have:=h (j + 1) y (by simpa using hj) hy
    rwa [show k + (j + 1) = k + 1 + j by omega] at this
   rw [zbf]
   by_cases c : x = -2
   ·rw [if_pos c,hr m,c]
    rw [yf]
    simp
   ·have h0:=h 0 x rfl c
    rw [yv] at h0
    rw [if_neg c,if_neg (by omega),hr _,yf]
    by_cases d : x = -1
    ·rw [if_pos d]
     simp [d]
     omega
    ·rw [if_neg d]
     simp [d]
theorem zsC : zfD (t.set root (-1)) = true:=by
 have h:=zkK (tree:=t.set root (-1)) (t.set root (-1)) 0 0 fun j x hj hx => by
  rw [yw,zvN Q]
  by_cases c : O (j : Int)
  ·exact c
  ·have:=zu1 Q c (by omega)
   unfold tr at this
   rw [ye,ya,hj] at this
   exact absurd this hx
 have hlt : root < t.length:=by have:=zj2 Q; rw [Q.len]; omega
 have h0 : t.count (-1) = 0:=by
  rw [List.count_eq_zero]
  intro hm
  obtain ⟨j,hj⟩:=List.mem_iff_getElem?.1 hm
  have e : tf t (j : Int) = -1:=by
   rw [zrX (by omega)]
   unfold tr
   rw [ye,ya,hj]
   rfl
  have hp : tf t (j : Int) ≠ -2:=by rw [e]; omega
  by_cases c : (j : Int) = (root : Int)
  ·rw [c,Q.inv.rt] at e
   omega
  ·exact (zqO Q (zgB Q.ord Q.inv hp) c).2.2.2 e
 have h1 : (t.set root (-1)).count (-1) = 1:=by
  rw [yz hlt,h0]
  simp
 unfold zfD
 rw [h,h1]
 rfl
theorem zlr {y x : Int} (h : Anc (root : Int) (tf t) y x) (hx : O x) : O y ∧ (y = x ∨ zA (t.set root (-1)) y < zA (t.set root (-1)) x):=by
 induction h with
 | refl => exact ⟨hx,.inl rfl⟩
 | step n h ih =>
   rename_i x
   obtain ⟨h1,h2,h3,h4⟩:=zqO Q hx n
   obtain ⟨k1,k2⟩:=ih h2
   have:=zc0 (zm4 Q hx) (by rw [h1]; exact h4)
   rw [h1] at this
   refine ⟨k1,.inr ?_⟩
   rcases k2 with k2 | k2
   ·rw [k2]; omega
   ·omega
theorem zkE : ∀ (r : Nat) (a b : Int),O a → O b → zA (t.set root (-1)) a + zA (t.set root (-1)) b ≤ r → O (zgp (t.set root (-1)) r a b) ∧ ∀ y,Anc (root : Int) (tf t) y (zgp (t.set root (-1)) r a b) ↔ Anc (root : Int) (tf t) y a ∧ Anc (root : Int) (tf t) y b:=by
 have rt : ∀ a,O a → zA (t.set root (-1)) a = 0 → a = (root : Int):=fun a ha h => by
  by_cases c : a = (root : Int)
  ·exact c
  ·obtain ⟨h1,_,_,h4⟩:=zqO Q ha c
   rw [zez h] at h1
   exact absurd h1.symm h4
 intro r
 induction r with
 | zero =>
   intro a b ha hb h
   have h1:=zm4 Q ha
   have h2:=zm4 Q hb
   have e1:=rt a ha (by omega)
   have e2:=rt b hb (by omega)
   subst e1 e2
   exact ⟨ha,fun y => ⟨fun h => ⟨h,h⟩,fun h => h.1⟩⟩
 | succ r ih =>
   intro a b ha hb h
   have h1:=zm4 Q ha
   have h2:=zm4 Q hb
   rw [zgp]
   by_cases c : a = b
   ·subst c
    rw [if_pos rfl]
    exact ⟨ha,fun y => ⟨fun h => ⟨h,h⟩,fun h => h.1⟩⟩
   ·rw [if_neg c]
    by_cases d : zA (t.set root (-1)) b ≤ zA (t.set root (-1)) a
    ·rw [if_pos d]
     have hr : a ≠ (root : Int):=by
      rintro rfl
      have e0:=zhL (t:=t.set root (-1)) (a:=(root : Int)) (by omega) (by rw [zim Q]; exact zj2 Q) (by rw [zmo Q (by omega),if_pos rfl])
      exact c (rt b hb (by omega)).symm
     obtain ⟨k1,k2,k3,k4⟩:=zqO Q ha hr
     have ds:=zc0 h1 (by rw [k1]; exact k4)
     rw [k1] at ds ⊢
     obtain ⟨q1,q2⟩:=ih _ b k2 hb (by omega)
     refine ⟨q1,fun y => ?_⟩
     rw [q2 y]
     constructor
     ·rintro ⟨w1,w2⟩
      exact ⟨.step hr w1,w2⟩
     ·rintro ⟨w1,w2⟩
      refine ⟨(zkR w1 ?_).2,w2⟩
      rintro rfl
      rcases (zlr Q w2 hb).2 with e | e
      ·exact c e
      ·omega
    ·rw [if_neg d]
     have hr : b ≠ (root : Int):=by
      rintro rfl
      have e0:=zhL (t:=t.set root (-1)) (a:=(root : Int)) (by omega) (by rw [zim Q]; exact zj2 Q) (by rw [zmo Q (by omega),if_pos rfl])
      omega
     obtain ⟨k1,k2,k3,k4⟩:=zqO Q hb hr
     have ds:=zc0 h2 (by rw [k1]; exact k4)
     rw [k1] at ds ⊢
     obtain ⟨q1,q2⟩:=ih a _ ha k2 (by omega)
     refine ⟨q1,fun y => ?_⟩
     rw [q2 y]
     constructor
     ·rintro ⟨w1,w2⟩
      exact ⟨w1,.step hr w2⟩
     ·rintro ⟨w1,w2⟩
      refine ⟨w1,(zkR w2 ?_).2⟩
      rintro rfl
      rcases (zlr Q w1 ha).2 with e | e
      ·exact c e.symm
      ·omega
theorem zzb (a b : Int) : inS (t.set root (-1)) [a,b] = true ↔ O a ∧ O b:=by
 unfold inS
 rw [zsC Q]
 have ha:=zvN Q a
 have hb:=zvN Q b
 simp only [Bool.true_and,List.any_cons,List.any_nil,Bool.or_false,yk,yr,decide_eq_false_iff_not]
 rw [← ha,← hb]
 omega
theorem zsJ (a b : Int) : zia (t.set root (-1)) a b = true ↔ O a ∧ O b ∧ Anc (root : Int) (tf t) a b:=by
 unfold zia
 rw [yd,zzb Q,decide_eq_true_eq]
 constructor
 ·rintro ⟨⟨ha,hb⟩,h⟩
  have hs:=zkE Q _ a b ha hb (by have:=zm4 Q ha; have:=zm4 Q hb; omega : zA (t.set root (-1)) a + zA (t.set root (-1)) b ≤ ((zA (t.set root (-1)) a + zA (t.set root (-1)) b).toNat : Int))
  rw [zt2,if_pos ((zzb Q a b).2 ⟨ha,hb⟩)] at h
  rw [h] at hs
  exact ⟨ha,hb,((hs.2 a).1 (.refl _)).2⟩
 ·rintro ⟨ha,hb,h⟩
  refine ⟨⟨ha,hb⟩,?_⟩
  have hs:=zkE Q _ a b ha hb (by have:=zm4 Q ha; have:=zm4 Q hb; omega : zA (t.set root (-1)) a + zA (t.set root (-1)) b ≤ ((zA (t.set root (-1)) a + zA (t.set root (-1)) b).toNat : Int))
  rw [zt2,if_pos ((zzb Q a b).2 ⟨ha,hb⟩)]
  have h1:=(hs.2 a).2 ⟨.refl _,h⟩
  have h2:=((hs.2 _).1 (.refl _)).1
  rcases (zlr Q h1 hs.1).2 with e | e
  ·exact e.symm
  ·rcases (zlr Q h2 ha).2 with e2 | e2
   ·exact e2
   ·omega
theorem zyg (a b : Int) : zia (t.set root (-1)) a b = true ↔ O a ∧ O b ∧ Dom (Eg succ) (root : Int) a b:=by
 rw [zsJ Q]
 constructor
 ·rintro ⟨h1,h2,h3⟩
  exact ⟨h1,h2,(zr1 Q.ord Q.inv Q.st h2).1 h3⟩
 ·rintro ⟨h1,h2,h3⟩
  exact ⟨h1,h2,(zr1 Q.ord Q.inv Q.st h2).2 h3⟩
end
end AC
namespace AC
open Go Go.A Go.A.Lex
open Dm
inductive RW (succ : List (List Int)) (root w : Int) : Int → Prop
 | root : root ≠ w → RW succ root w root
 | step {p x : Int} : RW succ root w p → Eg succ p x → x ≠ w → RW succ root w x
def leB (a b : List Bool) : Prop:=∀ j : Nat,a.getD j false = true → b.getD j false = true
theorem leB.trans {a b c : List Bool} (h : leB a b) (k : leB b c) : leB a c:=fun j hj => k j (h j hj)
theorem zll (w : Int) : ∀ (l : List Int) (out : List Bool),leB out (l.foldl (mark w) out)
 | [],out => fun j h => h
 | y :: l,out => fun j h => by
   rw [ys]
   exact zll w l (mark w out y) j (zuV h)
theorem zsG (w : Int) : ∀ (l : List Int) (out : List Bool),(∀ y ∈ l,0 ≤ y ∧ y < (out.length : Int)) → ∀ y ∈ l,y ≠ w → (l.foldl (mark w) out).getD y.toNat false = true
 | [],_,_ => by simp
 | x :: l,out,hr => fun y hy hw => by
   rw [ys]
   have hr' : ∀ z ∈ l,0 ≤ z ∧ z < ((mark w out x).length : Int):=fun z hz => by rw [zlY]; exact hr z (yi _ hz)
   rcases yx.1 hy with rfl | hy
   ·refine zll w l _ _ ?_
    have:=hr y yg
    unfold mark
    rw [if_neg hw,zaF _ _ (by omega)]
   ·exact zsG w l _ hr' y hy hw
theorem zjL (w : Int) : ∀ (r : List (List Int)) (i : Nat) (out : List Bool),leB out (zjX w i r out)
 | [],_,_ => fun j h => h
 | l :: r,i,out => by
   rw [zjX]
   refine leB.trans ?_ (zjL w r (i + 1) _)
   split
   ·exact zll w l out
   ·exact fun j h => h
theorem zk6 (w : Int) (n : Nat) : ∀ (r : List (List Int)) (i : Nat) (out : List Bool),out.length = n → (∀ l ∈ r,∀ y ∈ l,0 ≤ y ∧ y < (n : Int)) → leB (zjX w i r out) out →
  ∀ (j : Nat) (l : List Int),r[j]? = some l → out.getD (i + j) false = true → ∀ y ∈ l,y ≠ w → out.getD y.toNat false = true
 | [],_,_,_,_,_ => by simp
 | l :: r,i,out,ho,hr,hle => by
   intro j q hq hj y hy hw
   rw [zjX] at hle
   obtain ⟨o1,ho1⟩ : ∃ o1,o1 = (if out.getD i false = true then l.foldl (mark w) out else out):=⟨_,rfl⟩
   rw [← ho1] at hle
   have h1 : leB out o1:=by
    rw [ho1]
    split
    ·exact zll w l out
    ·exact fun j h => h
   have h2 : leB o1 out:=leB.trans (zjL w r (i + 1) o1) hle
   have hl1 : o1.length = n:=by
    rw [ho1]
    split
    ·rw [zgZ]; exact ho
    ·exact ho
   cases j with
   | zero =>
     simp only [List.getElem?_cons_zero,Option.some.injEq] at hq
     subst hq
     rw [yv] at hj
     refine h2 _ ?_
     rw [ho1,if_pos hj]
     exact zsG w l out (fun z hz => by rw [ho]; exact hr l yg z hz) y hy hw
   | succ j =>
     have:=zk6 w n r (i + 1) o1 hl1 (fun l hl => hr l (yi _ hl)) (leB.trans hle h1) j q (by simpa using hq) (by rw [show i + 1 + j = i + (j + 1) by omega]; exact h1 _ hj) y hy hw
     exact h2 _ this
theorem count_le : ∀ (a b : List Bool),a.length = b.length → leB a b → a.count true ≤ b.count true ∧ ((∃ j,b.getD j false = true ∧ a.getD j false = false) → a.count true < b.count true)
 | [],b,h,_ => by
   have : b = []:=yj (by simpa using h.symm)
   subst this
   simp
 | x :: a,[],h,_ => by simp at h
 | x :: a,y :: b,h,hle => by
   have ht : leB a b:=fun j hj => by
    have:=hle (j + 1) (by simpa using hj)
    simpa using this
   have h0:=hle 0
   simp only [yt] at h0
   obtain ⟨i1,i2⟩:=count_le a b (by simpa using h) ht
   constructor
   ·rw [yf,yf]
    cases x <;> cases y <;> simp at h0 ⊢ <;> omega
   ·rintro ⟨j,h1,h2⟩
    cases j with
    | zero =>
      simp only [yt] at h1 h2
      subst h1 h2
      rw [yf,yf]
      simp
      omega
    | succ j =>
      have:=i2 ⟨j,by simpa using h1,by simpa using h2⟩
      rw [yf,yf]
      cases x <;> cases y <;> simp at h0 ⊢ <;> omega
theorem zA5 {a b : List Bool} (hl : a.length = b.length) (h : leB a b) (k : leB b a) : a = b:=by
 apply yh
 intro j
 by_cases c : j < a.length
 ·have cb : j < b.length:=by omega
  have e1 : a.getD j false = a[j]:=by rw [ya,yc c]; rfl
  have e2 : b.getD j false = b[j]:=by rw [ya,yc cb]; rfl
  have h1:=h j
  have h2:=k j
  rw [e1,e2] at h1 h2
  rw [yc c,yc cb]
  congr 1
  cases ha : a[j] <;> cases hb : b[j] <;> simp_all
 ·rw [yb (by omega),yb (by omega)]
section
variable {succ : List (List Int)} (hr : ∀ l ∈ succ,∀ y ∈ l,0 ≤ y ∧ y < (succ.length : Int)) (root w : Int)
def ze9 (succ : List (List Int)) (w : Int) (out : List Bool) : Prop:=∀ (j : Nat) (l : List Int),succ[j]? = some l → out.getD j false = true → ∀ y ∈ l,y ≠ w → out.getD y.toNat false = true
include hr
theorem zji : ∀ (r : Nat) (out : List Bool),out.length = succ.length → ze9 succ w (zdJ w succ r out) ∨ out.count true + r ≤ (zdJ w succ r out).count true
 | 0,out,_ => .inr (Nat.le_refl _)
 | r + 1,out,ho => by
   rw [zdJ]
   have hl:=zhb w succ 0 out
   by_cases c : leB (zjX w 0 succ out) out
   ·have e:=zA5 hl c (zjL w succ 0 out)
    have hc : ze9 succ w out:=fun j l h1 h2 => zk6 w succ.length succ 0 out ho hr c j l h1 (by rw [yw]; exact h2)
    have st : ∀ k,zdJ w succ k out = out:=by
     intro k
     induction k with
     | zero => rfl
     | succ k ih => rw [zdJ,e,ih]
    left
    rw [e,st]
    exact hc
   ·have hlt : out.count true < (zjX w 0 succ out).count true:=by
     refine (count_le out _ hl.symm (zjL w succ 0 out)).2 ?_
     have hex : ∃ j,¬ ((zjX w 0 succ out).getD j false = true → out.getD j false = true):=Classical.not_forall.1 c
     obtain ⟨j,hj⟩:=hex
     have hj2:=Classical.not_imp.1 hj
     exact ⟨j,hj2.1,by simpa using hj2.2⟩
    rcases zji r (zjX w 0 succ out) (by rw [hl]; exact ho) with h | h
    ·exact .inl h
    ·right; omega
theorem ztR {out : List Bool} (P : Int → Prop) (h : ∀ j : Nat,out.getD j false = true → P (j : Int)) {y : Int} (h0 : 0 ≤ y) (hy : y ≠ w → P y) : ∀ j : Nat,(mark w out y).getD j false = true → P (j : Int):=by
 intro j hj
 unfold mark at hj
 split at hj
 ·exact h j hj
 ·rename_i c
  by_cases e : y.toNat = j
  ·rw [show (j : Int) = y by omega]
   exact hy c
  ·rw [getD_set_ne _ _ e] at hj
   exact h j hj
theorem zmT (P : Int → Prop) : ∀ (l : List Int) (out : List Bool),(∀ j : Nat,out.getD j false = true → P (j : Int)) → (∀ y ∈ l,0 ≤ y ∧ (y ≠ w → P y)) → ∀ j : Nat,(l.foldl (mark w) out).getD j false = true → P (j : Int)
 | [],_,h,_ => h
 | y :: l,out,h,hl => by
   rw [ys]
   exact zmT P l _ (ztR hr w P h (hl y yg).1 (hl y yg).2) fun z hz => hl z (yi _ hz)
theorem zmG (P : Int → Prop) (hP : ∀ p x,P p → Eg succ p x → x ≠ w → P x) : ∀ (r : List (List Int)) (i : Nat) (out : List Bool),(∀ j l,r[j]? = some l → succ[i + j]? = some l) → (∀ j : Nat,out.getD j false = true → P (j : Int)) → ∀ j : Nat,(zjX w i r out).getD j false = true → P (j : Int)
 | [],_,_,_,h => h
 | l :: r,i,out,hs,h => by
   rw [zjX]
   refine zmG P hP r (i + 1) _ (fun j q hq => ?_) ?_
   ·have:=hs (j + 1) q (by simpa using hq)
    rwa [show i + (j + 1) = i + 1 + j by omega] at this
   ·split
    ·rename_i c
     have hl:=hs 0 l rfl
     rw [yv] at hl
     have hlm:=List.mem_of_getElem? hl
     have hi:=(yl.1 hl).1
     refine zmT hr w P l out h fun y hy => ⟨(hr l hlm y hy).1,fun hw => hP (i : Int) y (h i c) ⟨by omega,by omega,?_⟩ hw⟩
     rw [ye,ya,hl]
     exact hy
    ·exact h
theorem zkM (P : Int → Prop) (hP : ∀ p x,P p → Eg succ p x → x ≠ w → P x) : ∀ (r : Nat) (out : List Bool),(∀ j : Nat,out.getD j false = true → P (j : Int)) → ∀ j : Nat,(zdJ w succ r out).getD j false = true → P (j : Int)
 | 0,_,h => h
 | r + 1,out,h => by
   rw [zdJ]
   exact zkM P hP r _ (zmG hr w P hP succ 0 out (fun j l hj => by rw [yw]; exact hj) h)
theorem zpH : ∀ (r : Nat) (out : List Bool),leB out (zdJ w succ r out)
 | 0,_ => fun j h => h
 | r + 1,out => by
   rw [zdJ]
   exact leB.trans (zjL w succ 0 out) (zpH r _)
theorem zqo (h0 : 0 ≤ root ∧ root < (succ.length : Int)) (j : Nat) : (zjD succ root w).getD j false = true ↔ RW succ root w (j : Int):=by
 unfold zjD
 by_cases c : root = w
 ·rw [if_pos c]
  constructor
  ·intro h
   rw [ya,yn] at h
   split at h <;> simp at h
  ·intro h
   exfalso
   have key : ∀ x,RW succ root w x → False:=fun x hx => by
    induction hx with
    | root h => exact h c
    | step _ _ _ ih => exact ih
   exact key _ h
 ·rw [if_neg c]
  obtain ⟨o0,ho0⟩ : ∃ o,o = (List.replicate succ.length false).set root.toNat true:=⟨_,rfl⟩
  have hl0 : o0.length = succ.length:=by rw [ho0]; simp
  have hroot : o0.getD root.toNat false = true:=by rw [ho0,zaF _ _ (by simp; omega)]
  rw [← ho0]
  constructor
  ·refine zkM hr w (RW succ root w) (fun p x hp e hx => .step hp e hx) succ.length o0 (fun i hi => ?_) j
   rw [ho0] at hi
   by_cases e : root.toNat = i
   ·rw [show (i : Int) = root by omega]
    exact .root c
   ·rw [getD_set_ne _ _ e,ya,yn] at hi
    split at hi <;> simp at hi
  ·have hcl : ze9 succ w (zdJ w succ succ.length o0):=by
    rcases zji hr w succ.length o0 hl0 with h | h
    ·exact h
    ·exfalso
     have h1 : 1 ≤ o0.count true:=by
      rw [ho0,yz (by simp; omega)]
      simp
     have h2 : (zdJ w succ succ.length o0).count true ≤ succ.length:=by
      have:=List.count_le_length (a:=true) (l:=zdJ w succ succ.length o0)
      rw [zjb,hl0] at this
      exact this
     omega
   have key : ∀ x,RW succ root w x → 0 ≤ x ∧ (zdJ w succ succ.length o0).getD x.toNat false = true:=fun x hx => by
    induction hx with
    | root _ => exact ⟨h0.1,zpH hr w _ _ _ hroot⟩
    | step _ e hx ih =>
      rename_i p x _
      have rx:=zs4 hr e
      refine ⟨rx.1,?_⟩
      obtain ⟨e1,e2,e3⟩:=e
      have hlt : p.toNat < succ.length:=by omega
      rw [ya,yc hlt] at e3
      exact hcl p.toNat succ[p.toNat] (yc hlt) ih.2 x e3 hx
   intro h
   have:=(key _ h).2
   rwa [ye] at this
omit hr in
theorem zyI (x : Int) : RW succ root w x ↔ ∃ l,Way (Eg succ) root x l ∧ w ∉ l:=by
 constructor
 ·intro h
  induction h with
  | root h => exact ⟨_,.root,by simpa using fun e => h e.symm⟩
  | step _ e hx ih =>
    obtain ⟨l,h1,h2⟩:=ih
    refine ⟨_,.step h1 e,fun hm => ?_⟩
    rcases yx.1 hm with h | h
    ·exact hx h.symm
    ·exact h2 h
 ·rintro ⟨l,h1,h2⟩
  induction h1 with
  | root => exact .root fun e => h2 (by rw [e]; exact yg)
  | step h e ih => exact .step (ih fun hm => h2 (yi _ hm)) e fun e => h2 (by rw [e]; exact yg)
end
section
variable {succ : List (List Int)} (hm : zdb succ = true) {root : Nat} {O : Int → Prop} {pos : Int → Nat} {t : List Int} (Q : TreeOf succ (root : Int) O pos t)
include hm Q
theorem zrb (j : Nat) : (zjD succ (root : Int) (-1)).getD j false = true ↔ O (j : Int):=by
 obtain ⟨n1,n64,hr⟩:=zd8 hm
 rw [zqo hr (root : Int) (-1) ⟨by omega,zj2 Q⟩,zyI,Q.rch]
 constructor
 ·rintro ⟨l,h,_⟩; exact ⟨l,h⟩
 ·rintro ⟨l,h⟩
  refine ⟨l,h,fun hmm => ?_⟩
  have:=Q.rng _ ((zse Q.ord h).2 _ hmm)
  omega
theorem zi1 (c b : Nat) : ovB succ (root : Int) c b = true ↔ O (b : Int) ∧ Dom (Eg succ) (root : Int) (c : Int) (b : Int):=by
 obtain ⟨n1,n64,hr⟩:=zd8 hm
 unfold ovB
 rw [yd,zrb hm Q,yk,← yy,zqo hr (root : Int) (c : Int) ⟨by omega,zj2 Q⟩,zyI]
 constructor
 ·rintro ⟨h1,h2⟩
  refine ⟨h1,fun l w => ?_⟩
  by_cases hc : (c : Int) ∈ l
  ·exact hc
  ·exact absurd ⟨l,w,hc⟩ h2
 ·rintro ⟨h1,h2⟩
  exact ⟨h1,fun ⟨l,w,hc⟩ => hc (h2 l w)⟩
theorem zoL (b a : Nat) : ∀ (d k : Nat),zeQ succ (root : Int) b a k d = true ↔ ∀ c,k ≤ c → c < k + d → c = b ∨ ¬ ovB succ (root : Int) c b = true ∨ ovB succ (root : Int) c a = true
 | 0,k => by simp [zeQ]; omega
 | d + 1,k => by
   rw [zeQ,yd,zoL b a d (k + 1)]
   simp only [Bool.or_eq_true,decide_eq_true_eq,yk,yy]
   constructor
   ·rintro ⟨h1,h2⟩ c hc1 hc2
    by_cases e : c = k
    ·subst e; exact h1
    ·exact h2 c (by omega) (by omega)
   ·intro h
    exact ⟨h k (by omega) (by omega),fun c hc1 hc2 => h c (by omega) (by omega)⟩
omit hm Q in
theorem zlG (b : Nat) : ∀ (d k : Nat) (v : Int),(∀ c,k ≤ c → c < k + d → ¬ (c ≠ b ∧ ovB succ (root : Int) c b = true ∧ zeQ succ (root : Int) b c 0 succ.length = true)) → zhE succ (root : Int) b k d v = v
 | 0,_,_,_ => rfl
 | d + 1,k,v,h => by
   have h0:=h k (by omega) (by omega)
   rw [zhE,if_neg,zlG b d (k + 1) v fun c h1 h2 => h c (by omega) (by omega)]
   simpa using h0
omit hm Q in
theorem zsT (b k0 : Nat) : ∀ (d k : Nat) (v : Int),k ≤ k0 → k0 < k + d → (k0 ≠ b ∧ ovB succ (root : Int) k0 b = true ∧ zeQ succ (root : Int) b k0 0 succ.length = true) →
  (∀ c,k ≤ c → c < k + d → c ≠ k0 → ¬ (c ≠ b ∧ ovB succ (root : Int) c b = true ∧ zeQ succ (root : Int) b c 0 succ.length = true)) → zhE succ (root : Int) b k d v = (k0 : Int)
 | 0,k,v,h1,h2,_,_ => by omega
 | d + 1,k,v,h1,h2,hp,hu => by
   rw [zhE]
   by_cases e : k = k0
   ·subst e
    rw [if_pos (by simpa using hp)]
    exact zlG b d (k + 1) _ fun c h3 h4 => hu c (by omega) (by omega) (by omega)
   ·exact zsT b k0 d (k + 1) _ (by omega) (by omega) hp fun c h3 h4 => hu c (by omega) (by omega)
theorem zwv : zjk succ (root : Int) = t.set root (-1):=by
 obtain ⟨n1,n64,hr⟩:=zd8 hm
 apply yh
 intro b
 by_cases hb : b < succ.length
 ·have hl:=zim Q
  have hbt : b < (t.set root (-1)).length:=by omega
  rw [zjk,List.getElem?_map,List.getElem?_range hb,yc hbt]
  simp only [Option.map_some]
  congr 1
  have e : (t.set root (-1))[b] = tr (t.set root (-1)) (b : Int):=by
   unfold tr
   rw [ye,ya,yc hbt]
   rfl
  rw [e]
  unfold zA6
  by_cases c : (b : Int) = (root : Int)
  ·rw [if_pos c,zmo Q (by omega),if_pos c]
  ·rw [if_neg c]
   by_cases ho : O (b : Int)
   ·obtain ⟨h1,h2,h3,h4⟩:=zqO Q ho c
    have rp:=Q.rng _ h2
    obtain ⟨p,hp⟩ : ∃ p : Nat,(p : Int) = tf t (b : Int):=⟨(tf t (b : Int)).toNat,by omega⟩
    rw [h1,← hp]
    rw [← hp] at h2 h3 rp
    have hdom : Dom (Eg succ) (root : Int) (p : Int) (b : Int):=(zr1 Q.ord Q.inv Q.st ho).1 (.step c (by rw [← hp]; exact .refl _))
    have hA : ∀ d,Dom (Eg succ) (root : Int) d (b : Int) → d ≠ (b : Int) → Dom (Eg succ) (root : Int) d (p : Int):=fun d h5 h6 => by
     have:=Q.inv.A (b : Int) d c (zCe Q ho) h5 h6
     rwa [← hp] at this
    have hpb : p ≠ b:=fun e => by rw [e] at h3; omega
    refine zsT b p succ.length 0 (-2) (yB _) (by omega) ⟨hpb,(zi1 hm Q p b).2 ⟨ho,hdom⟩,?_⟩ fun k _ hk hne => ?_
    ·rw [zoL hm Q]
     intro k _ hk
     by_cases e1 : k = b
     ·exact .inl e1
     ·by_cases e2 : ovB succ (root : Int) k b = true
      ·exact .inr (.inr ((zi1 hm Q k p).2 ⟨h2,hA _ ((zi1 hm Q k b).1 e2).2 (by omega)⟩))
      ·exact .inr (.inl e2)
    ·rintro ⟨k1,k2,k3⟩
     rw [zoL hm Q] at k3
     have hk2:=((zi1 hm Q k b).1 k2).2
     rcases k3 p (yB _) (by omega) with e1 | e1 | e1
     ·exact hpb e1
     ·exact e1 ((zi1 hm Q p b).2 ⟨ho,hdom⟩)
     ·obtain ⟨ok,hpk⟩:=(zi1 hm Q p k).1 e1
      have hkp:=hA _ hk2 (by omega)
      rcases zoD Q.ord ok hpk with e2 | e2
      ·exact hne (by omega)
      ·rcases zoD Q.ord h2 hkp with e3 | e3
       ·exact hne (by omega)
       ·omega
   ·rw [zu1 Q ho (by omega)]
    refine zlG b succ.length 0 (-2) fun k _ _ h => ?_
    exact ho ((zi1 hm Q k b).1 h.2.1).1
 ·rw [yb (by simp [zjk]; omega),yb (by rw [zim Q]; omega)]
omit hm in
theorem znN : ∀ (r : Nat) (acc : List Int) (a : Int),O a → pos a < r → ∃ ch,pathFrom (t.set root (-1)) r acc a = acc ++ a :: ch ∧ ∀ x,x ∈ a :: ch ↔ Anc (root : Int) (tf t) x a:=by
 intro r
 induction r with
 | zero => intro acc a _ h; omega
 | succ r ih =>
   intro acc a ha h
   have ra:=Q.rng a ha
   rw [pathFrom,if_neg (by rw [zim Q]; omega)]
   by_cases c : a = (root : Int)
   ·rw [if_pos (by rw [zmo Q ra.1,if_pos c])]
    refine ⟨[],rfl,fun x => ?_⟩
    rw [List.mem_singleton]
    constructor
    ·rintro rfl; exact .refl _
    ·intro hx
     by_cases e : x = a
     ·exact e
     ·exact absurd c (zkR hx e).1
   ·obtain ⟨h1,h2,h3,h4⟩:=zqO Q ha c
    rw [h1,if_neg h4]
    obtain ⟨ch,e1,e2⟩:=ih (acc ++ [a]) (tf t a) h2 (by omega)
    refine ⟨tf t a :: ch,by rw [e1]; simp,fun x => ?_⟩
    rw [yx,e2 x]
    constructor
    ·rintro (rfl | hx)
     ·exact .refl _
     ·exact .step c hx
    ·intro hx
     by_cases e : x = a
     ·exact .inl e
     ·exact .inr (zkR hx e).2
omit hm in
theorem zwg {a b : Int} (ha : O a) (hb : O b) : zs0 (t.set root (-1)) a b = a ↔ zia (t.set root (-1)) a b = true:=by
 rw [zsJ Q]
 unfold zs0
 rw [if_pos (zsC Q)]
 have hpa : pos a < (t.set root (-1)).length:=by rw [zim Q]; exact Q.low a ha
 have hpb : pos b < (t.set root (-1)).length:=by rw [zim Q]; exact Q.low b hb
 obtain ⟨ca,e1,e2⟩:=znN Q _ [] a ha hpa
 obtain ⟨cb,e3,e4⟩:=znN Q _ [] b hb hpb
 rw [List.nil_append] at e1 e3
 have f1 : zx9 (t.set root (-1)) a = a :: ca:=e1
 have f2 : zx9 (t.set root (-1)) b = b :: cb:=e3
 rw [f1,f2,List.find?_cons]
 by_cases c : a ∈ b :: cb
 ·rw [decide_eq_true c]
  simp only [yA,true_iff]
  exact ⟨ha,hb,(e4 a).1 c⟩
 ·rw [decide_eq_false c]
  simp only
  constructor
  ·intro h
   exfalso
   cases hf : ca.find? (fun x => decide (x ∈ b :: cb)) with
   | none =>
     rw [hf] at h
     have:=(Q.rng a ha).1
     simp at h
     omega
   | some x =>
     rw [hf] at h
     have:=List.find?_some hf
     simp only [yA] at h
     subst h
     exact c (by simpa using this)
  ·rintro ⟨_,_,h⟩
   exact absurd ((e4 a).2 h) c
end
end AC
namespace AC
open Go Go.A Go.A.Lex
def rvK (l : List Int) (k : Nat) : List Int:=(List.range l.length).map fun j => if j < k ∨ l.length - k ≤ j then l.getD (l.length - 1 - j) 0 else l.getD j 0
theorem zfA (l : List Int) (k : Nat) : (rvK l k).length = l.length:=by simp [rvK]
theorem zkq (l : List Int) (k j : Nat) (h : j < l.length) : (rvK l k)[j]? = some (if j < k ∨ l.length - k ≤ j then l.getD (l.length - 1 - j) 0 else l.getD j 0):=by simp [rvK,h]
theorem zyd (l : List Int) : rvK l 0 = l:=by
 apply yh
 intro j
 by_cases h : j < l.length
 ·rw [zkq l 0 j h,if_neg (by omega)]
  simp [h]
 ·rw [yb (by rw [zfA]; omega),yb (by omega)]
theorem zz3 (l : List Int) (k : Nat) (h : l.length ≤ 2 * k + 1) : rvK l k = l.reverse:=by
 apply yh
 intro j
 by_cases hj : j < l.length
 ·rw [zkq l k j hj,List.getElem?_reverse hj]
  have h2 : l.length - 1 - j < l.length:=by omega
  by_cases c : j < k ∨ l.length - k ≤ j
  ·rw [if_pos c]
   simp [h2]
  ·rw [if_neg c]
   have : l.length - 1 - j = j:=by omega
   rw [this]
   simp [hj]
 ·rw [yb (by rw [zfA]; omega),yb (by simp; omega)]
theorem zxe (l : List Int) (k : Nat) (h : 2 * k + 1 < l.length) : ((rvK l k).set k (l.getD (l.length - 1 - k) 0)).set (l.length - 1 - k) (l.getD k 0) = rvK l (k + 1):=by
 apply yh
 intro j
 by_cases hj : j < l.length
 ·rw [zkq l (k + 1) j hj,yo,yo,zkq l k j hj]
  simp only [ym,zfA]
  by_cases c1 : l.length - 1 - k = j
  ·rw [if_pos c1,if_pos (by omega),if_pos (by omega)]
   have : l.length - 1 - j = k:=by omega
   rw [this]
  ·rw [if_neg c1]
   by_cases c2 : k = j
   ·rw [if_pos c2,if_pos (by omega),if_pos (by omega),c2]
   ·rw [if_neg c2]
    by_cases c3 : j < k ∨ l.length - k ≤ j
    ·rw [if_pos c3,if_pos (by omega)]
    ·rw [if_neg c3,if_neg (by omega)]
 ·rw [yb (by simp [zfA]; omega),yb (by rw [zfA]; omega)]
theorem zjA {l : List Int} {j : Nat} {x : Int} (h : l[j]? = some x) : (l.map zi)[j]? = some [.f (.lit (.int .i64 x))]:=by simp [h,zi]
theorem zqq (σ : zb) (id ver : Nat) (l : List Int) (hl : l.length ≤ 4294967296) (hid : id < σ.length) : ∀ (d k : Nat) (a3 : V),l.length - 2 * k ≤ d → 2 * k ≤ l.length →
  exec T zai ⟨[.one (.own id ver 0 l.length),vI k,vI ((l.length : Int) - 1 - k),a3],σ.set id (.cells ver 1 ((rvK l k).map zi)),σ.length,σ.length⟩ =
   some (.exit 0,⟨[vU,vU,vU,vU],σ.set id (.cells ver 1 (l.reverse.map zi)),σ.length,σ.length⟩):=by
 have hend : ∀ k : Nat,¬ ((k : Int) < (l.length : Int) - 1 - k) → 2 * k ≤ l.length → ∀ (a3 : V),
  exec T zai ⟨[.one (.own id ver 0 l.length),vI k,vI ((l.length : Int) - 1 - k),a3],σ.set id (.cells ver 1 ((rvK l k).map zi)),σ.length,σ.length⟩ =
   some (.exit 0,⟨[vU,vU,vU,vU],σ.set id (.cells ver 1 (l.reverse.map zi)),σ.length,σ.length⟩):=by
  intro k hc hk a3
  rw [xl zai rfl,zco,zz3 l k (by omega)]
  simp -implicitDefEqProofs only [go_sem,hc,ym]
 intro d
 induction d with
 | zero =>
   intro k a3 h1 h2
   exact hend k (by omega) h2 _
 | succ d ih =>
   intro k a3 h1 h2
   by_cases hc : (k : Int) < (l.length : Int) - 1 - k
   ·have hk : k < l.length:=by omega
    have hk2 : l.length - 1 - k < l.length:=by omega
    have g1:=zjA (zkq l k k hk)
    have g2:=zjA (zkq l k (l.length - 1 - k) hk2)
    rw [if_neg (by omega)] at g1 g2
    have e1 : ((l.length : Int) - 1 - k).toNat = l.length - 1 - k:=by omega
    have e2 : (0 : Int) ≤ (l.length : Int) - 1 - k:=by omega
    have e3 : ((l.length : Int) - 1 - k < (l.length : Int)) = True:=by simp; omega
    have w1 : Go.IntKind.i64.wrap ((k : Int) + 1) = ((k + 1 : Nat) : Int):=by rw [wrap_i64] <;> omega
    have w2 : Go.IntKind.i64.wrap ((l.length : Int) - 1 - k - 1) = (l.length : Int) - 1 - ((k + 1 : Nat) : Int):=by rw [wrap_i64] <;> omega
    have hs : ((l.map zi).length) = l.length:=by simp
    have st:=congrArg (yD zi) (zxe l k (by omega))
    rw [yC,yC] at st
    have:=ih (k + 1) vU (by omega) (by omega)
    rw [← st] at this
    have hne : ¬ l.length - 1 - k = k:=by omega
    have g2' : ((yD zi (rvK l k)).set k (zi (l.getD (l.length - 1 - k) 0)))[l.length - 1 - k]? = some [.f (.lit (.int .i64 (l.getD (l.length - 1 - k) 0)))]:=by
     rw [List.getElem?_set_ne (by omega)]
     exact g2
    rw [xl zai rfl,zco]
    simp -implicitDefEqProofs only [go_sem,zi] at this g2'
    simp -implicitDefEqProofs only [go_sem,hc,e1,e2,e3,ilt hk,Int.natCast_nonneg,ye,List.getElem?_set_self hid,g1,g2,g2',List.set_set,ym,w1,w2,this]
   ·exact hend k hc h2 _
theorem zpW (σ : zb) (id ver : Nat) (l : List Int) (hl : l.length ≤ 4294967296) (hσ : σ[id]? = some (.cells ver 1 (l.map zi))) (n : Nat) (hn : n = l.length) :
  call T 149 [.one (.own id ver 0 n)] σ = some (.tup [],σ.set id (.cells ver 1 (l.reverse.map zi))):=by
 subst hn
 rw [ze (fn:=zcK) rfl]
 have hid : id < σ.length:=(yl.1 hσ).1
 have h:=fun a3 => zqq σ id ver l hl hid l.length 0 a3 (by omega) (by omega)
 have hs : σ.set id (.cells ver 1 (l.map zi)) = σ:=by
  apply yh
  intro j
  rw [yo]
  by_cases e : id = j
  ·subst e; rw [if_pos rfl,if_pos hid,hσ]
  ·rw [if_neg e]
 rw [zyd,hs] at h
 simp only [yu,Int.sub_zero] at h
 have w : Go.IntKind.i64.wrap ((l.length : Int) - 1) = (l.length : Int) - 1:=by rw [wrap_i64] <;> omega
 simp -implicitDefEqProofs only [go_sem] at h
 simp -implicitDefEqProofs only [go_sem,zcK,w,h,ym]
end AC
