/- A part of the proof of SchedDepth. Conditions: none. -/
import Derived.Test.YtmkncmffaaninaaGreatDBF
import Derived.Test.YtmkncmffaaninaaGreatDAU
set_option linter.unusedVariables false
set_option linter.unusedSimpArgs false
set_option linter.unusedSectionVars false
open List renaming getElem?_set_ne → ya,getElem?_set_self → yb,length_set → yc,getElem?_eq_some_iff → yg,length_append → yh,all_eq_true → yi,sublist_append_right → yj,getElem?_eq_getElem → yk,mem_cons_of_mem → yl,getElem?_cons_succ → ym,length_map → yn,getD_eq_getElem?_getD → yo,set_set → yp,getElem?_append_right → yq,getElem?_cons_zero → yr,mem_cons_self → ys,take_of_length_le → yt,set_getElem_self → yu,eq_nil_of_length_eq_zero → yv,nodup_cons → yw,drop_eq_getElem_cons → yx,getElem?_append_left → yy,getElem_cons_zero → yz,getElem_cons_succ → yA,getElem_mem → yB,map_cons → yC,length_replicate → yD,append_nil → yE,nil_append → yF,mem_map → yG,mem_cons → yH,append_assoc → yJ,getElem?_map → yK,drop_zero → yM,range → yQ,map → yR
open Bool renaming and_eq_true → yd,not_eq_true' → yI
open Int renaming natCast_nonneg → ye,toNat_natCast → yf,lt_irrefl → yL
open Nat renaming le_trans → yN,add_comm → yO,le_refl → yP
namespace AC
open Go Go.A
def zyF (tree : List Int) (d u : Use) : Prop:=d.block < 0 ∨ (d.block = u.block ∧ d.at' < u.at') ∨ (d.block ≠ u.block ∧ zmu tree d.block u.block = d.block)
structure RightP (f : PFunc) (level : Int) : Prop where
 lvl : 0 ≤ level ∧ level ≤ 2
 may : zlx f = true
 shape : zf9 f = true
 typed : zfk f level = true
 values : ∀ d ∈ zL f,value d.v = true
 once : ((zL f).map Use.v).Nodup
 uses : ∀ u ∈ zeV f,∃ d ∈ zL f,d.v = u.v ∧ d.shape = u.shape ∧ zyF (zeZ (zl f) 0) d u
theorem zo0 : ∀ (l pre : List Use),zgl pre l = true ↔ (∀ u ∈ l,value u.v = true) ∧ (l.map Use.v).Nodup ∧ ∀ u ∈ l,∀ x ∈ pre,x.v ≠ u.v
 | [],pre => by simp [zgl]
 | u :: r,pre => by
   rw [zgl,yd,yd,zo0 r (pre ++ [u]),zmP,yC,yw]
   constructor
   ·rintro ⟨⟨h1,h2⟩,h3,h4,h5⟩
    refine ⟨fun x hx => ?_,⟨fun hm => ?_,h4⟩,fun x hx y hy => ?_⟩
    ·rcases yH.1 hx with rfl | hx
     ·exact h1
     ·exact h3 x hx
    ·obtain ⟨x,hx,e⟩:=yG.1 hm
     exact h5 x hx u (by simp) e.symm
    ·rcases yH.1 hx with rfl | hx
     ·exact h2 y hy
     ·exact h5 x hx y (by simp [hy])
   ·rintro ⟨h1,⟨h2,h3⟩,h4⟩
    refine ⟨⟨h1 u ys,h4 u ys⟩,fun x hx => h1 x (yl _ hx),h3,fun x hx y hy => ?_⟩
    rcases List.mem_append.1 hy with hy | hy
    ·exact h4 x (yl _ hx) y hy
    ·rw [List.mem_singleton.1 hy]
     exact fun e => h2 (yG.2 ⟨x,hx,e.symm⟩)
theorem zqN : ∀ {defs : List Use},(defs.map Use.v).Nodup → ∀ {d : Use},d ∈ defs → defs.find? (fun u => decide (u.v = d.v)) = some d
 | [],_,_,hd => by simp at hd
 | x :: r,hn,d,hd => by
   rw [yC,yw] at hn
   rw [List.find?_cons]
   rcases yH.1 hd with rfl | hd
   ·simp
   ·rw [decide_eq_false (fun e => hn.1 (yG.2 ⟨d,hd,e.symm⟩))]
    exact zqN hn.2 hd
theorem zit {defs : List Use} (hn : (defs.map Use.v).Nodup) {d : Use} (hd : d ∈ defs) : ¬ zh d.v 0 defs < 0 ∧ zhC defs d.v = d:=by
 obtain ⟨h1,h2⟩:=zj8 defs d.v 0
 have hf:=zqN hn hd
 have h0 : ¬ zh d.v 0 defs < 0:=fun c => by
  have:=zmP.1 (h1.1 c) d hd
  exact this rfl
 refine ⟨h0,?_⟩
 have:=h2 (by omega)
 rw [show zh d.v 0 defs - ((0 : Nat) : Int) = zh d.v 0 defs by omega,hf] at this
 unfold zhC
 rw [yo,this]
 rfl
theorem zAf {defs : List Use} {v : Int} (h : ¬ zh v 0 defs < 0) : ∃ d ∈ defs,d.v = v:=by
 obtain ⟨h1,_⟩:=zj8 defs v 0
 refine Classical.byContradiction fun hc => h (h1.2 (zmP.2 fun u hu e => hc ⟨u,hu,e⟩))
theorem zpz {defs : List Use} (hn : (defs.map Use.v).Nodup) {d : Use} (hd : d ∈ defs) (tree : List Int) (u : Use) (e : d.v = u.v) : zgc defs tree u = true ↔ zyF tree d u:=by
 unfold zgc zyF
 rw [← e,(zit hn hd).2]
 simp only [Bool.or_eq_true,yd,decide_eq_true_eq,yI,Bool.or_eq_false_iff,decide_eq_false_iff_not,Bool.not_eq_false',or_assoc]
theorem znG {f : PFunc} {level : Int} : zaa f level = 0 ↔ RightP f level:=by
 unfold zaa
 constructor
 ·intro h
  split at h
  ·omega
  rename_i c1
  split at h
  ·omega
  rename_i c2
  split at h
  ·omega
  rename_i c3
  split at h
  ·omega
  rename_i c4
  split at h
  ·omega
  rename_i c5
  split at h
  ·omega
  rename_i c6
  split at h
  ·omega
  rename_i c7
  split at h
  ·omega
  rename_i c8
  simp only [Bool.not_eq_false] at c2 c3 c4 c5 c6 c7 c8
  have hs:=(zrB (zL f) (zL f) [] rfl).symm.trans c5
  obtain ⟨v1,v2,_⟩:=(zo0 _ _).1 hs
  refine ⟨by omega,c2,c3,c4,v1,v2,fun u hu => ?_⟩
  have h6:=yi.1 c6 u hu
  have h7:=yi.1 c7 u hu
  have h8:=yi.1 c8 u hu
  unfold zjL at h6
  simp only [yI,decide_eq_false_iff_not] at h6
  obtain ⟨d,hd,e⟩:=zAf h6
  refine ⟨d,hd,e,?_,(zpz v2 hd _ u e).1 h8⟩
  unfold sameShape at h7
  rw [← e,(zit v2 hd).2] at h7
  simpa using h7
 ·intro h
  have hs : zft (zL f) 0 (zL f) = true:=(zrB (zL f) (zL f) [] rfl).trans ((zo0 _ _).2 ⟨h.values,h.once,fun _ _ _ hx => by simp at hx⟩)
  have a6 : (zeV f).all (zjL (zL f)) = true:=yi.2 fun u hu => by
   obtain ⟨d,hd,e,_⟩:=h.uses u hu
   unfold zjL
   rw [← e]
   simpa using (zit h.once hd).1
  have a7 : (zeV f).all (sameShape (zL f)) = true:=yi.2 fun u hu => by
   obtain ⟨d,hd,e,es,_⟩:=h.uses u hu
   unfold sameShape
   rw [← e,(zit h.once hd).2,decide_eq_true_eq]
   exact es
  have a8 : (zeV f).all (zgc (zL f) (zeZ (zl f) 0)) = true:=yi.2 fun u hu => by
   obtain ⟨d,hd,e,_,hp⟩:=h.uses u hu
   exact (zpz h.once hd _ u e).2 hp
  have hl:=h.lvl
  rw [if_neg (by omega),if_neg (by simp [h.may]),if_neg (by simp [h.shape]),if_neg (by simp [h.typed]),if_neg (by simp [hs]),if_neg (by simp [a6]),if_neg (by simp [a7]),if_neg (by simp [a8])]
theorem zxk {f : PFunc} {level : Int} (h : zfk f level = true) {b : PBlock} (hb : b ∈ f.blocks) {o : POp} (ho : o ∈ b.ops) : zgq o = true:=by
 unfold zfk at h
 simp only [yd,yi] at h
 have:=h.2.2 b hb
 unfold zjw at this
 simp only [yd,yi] at this
 have:=this.2 o ho
 unfold ofS at this
 simp only [yd] at this
 exact this.2.2
theorem zty {o : POp} (h : zgq o = true) (hd : 0 < o.dst) : 0 < (zab o).1:=by
 unfold zab
 unfold zgq at h
 simp only [yd] at h
 have hm : zgq o = true:=by unfold zgq; simp only [yd]; exact h
 cases c : zfw o.kind
 ·rw [if_neg (by simp [hm])]
  split
  ·decide
  ·have hs:=h.1
   unfold zeD at hs
   have hb : 0 < o.bits:=by
    simp only [yd] at hs
    have:=zdp hs.1
    omega
   split <;> exact hb
 ·rw [c] at h
  simp at h
  omega
theorem zqw : ∀ (l : List PBlock) (k j : Nat) (b : PBlock),l[j]? = some b → (zcW ((k + j : Nat) : Int) 0 b.ops).Sublist (zV k l)
 | [],_,_,_,h => by simp at h
 | c :: l,k,j,b,h => by
   rw [zV]
   cases j with
   | zero =>
     simp only [yr,Option.some.injEq] at h
     subst h
     rw [Nat.add_zero]
     exact (List.sublist_append_left _ _).trans (yj _ _)
   | succ j =>
     have:=zqw l (k + 1) j b (by simpa using h)
     rw [show k + 1 + j = k + (j + 1) by omega] at this
     exact this.trans ((yj _ _).trans (yj _ _))
theorem zqv (i : Int) : ∀ (l : List POp) (k j : Nat) (o : POp),l[j]? = some o → 0 < (zab o).1 → ⟨o.dst,zab o,i,((k + j : Nat) : Int)⟩ ∈ zcW i k l
 | [],_,_,_,h,_ => by simp at h
 | x :: l,k,j,o,h,hg => by
   rw [zcW]
   cases j with
   | zero =>
     simp only [yr,Option.some.injEq] at h
     subst h
     rw [if_pos hg]
     exact ys
   | succ j =>
     have:=zqv i l (k + 1) j o (by simpa using h) hg
     rw [show k + 1 + j = k + (j + 1) by omega] at this
     split
     ·exact yl _ this
     ·exact this
theorem zm7 (i : Int) : ∀ (l : List POp) (k : Nat),((zcW i k l).map Use.v).Nodup → (∀ o ∈ l,zgq o = true) → ∀ a b (ha : a < l.length) (hb : b < l.length),a < b → 0 < l[a].dst → l[a].dst ≠ l[b].dst
 | [],_,_,_,a,_,ha,_,_,_ => by simp at ha
 | o :: l,k,hn,hm,a,b,ha,hb,hab,hd => by
   cases b with
   | zero => omega
   | succ b =>
     have hbl : b < l.length:=by simpa using hb
     have hmb : zgq l[b] = true:=hm _ (yl _ (yB hbl))
     cases a with
     | zero =>
       simp only [yz,yA] at hd ⊢
       intro e
       rw [zcW,if_pos (zty (hm o ys) hd),yC,yw] at hn
       refine hn.1 (yG.2 ⟨_,zqv i l (k + 1) b l[b] (yk hbl) (zty hmb (by omega)),?_⟩)
       exact e.symm
     | succ a =>
       simp only [yA] at hd ⊢
       refine zm7 i l (k + 1) ?_ (fun o ho => hm o (yl _ ho)) a b (by simpa using ha) hbl (by omega) hd
       rw [zcW] at hn
       split at hn
       ·exact (yw.1 hn).2
       ·exact hn
theorem zDq {o : POp} (h : zgq o = true) : 0 ≤ o.dst:=by
 unfold zgq at h
 simp only [yd] at h
 have:=h.2.2.1
 split at this
 ·simp at this; omega
 ·have:=zl6.1 this; omega
theorem RightP.oneDef {f : PFunc} {level : Int} (h : RightP f level) {b : PBlock} (hb : b ∈ f.blocks) : OneDef b.ops:=by
 have hm : ∀ o ∈ b.ops,zgq o = true:=fun o ho => zxk h.typed hb ho
 obtain ⟨j,hj,e⟩:=List.mem_iff_getElem.1 hb
 have hs:=zqw f.blocks 0 j b (by rw [yk hj,e])
 have hn : ((zcW ((0 + j : Nat) : Int) 0 b.ops).map Use.v).Nodup:=by
  refine List.Nodup.sublist ?_ h.once
  refine List.Sublist.map _ (hs.trans ?_)
  unfold zL
  exact yj _ _
 refine ⟨fun o ho => zDq (hm o ho),fun a c ha hc hd he => ?_⟩
 rcases Nat.lt_trichotomy a c with hac | hac | hac
 ·exact absurd he (zm7 _ _ _ hn hm a c ha hc hac hd)
 ·exact hac
 ·exact absurd he.symm (zm7 _ _ _ hn hm c a hc ha hac (by omega))
theorem RightP.size {f : PFunc} {level : Int} (h : RightP f level) {b : PBlock} (hb : b ∈ f.blocks) : b.ops.length ≤ 1000 ∧ ∀ o ∈ b.ops,o.args.length ≤ 64:=by
 have hf:=zgE h.may
 refine ⟨zoP hf.2.2.2.1 b hb,?_⟩
 exact (zqo (hf.2.2.2.2 b hb)).2
end AC
namespace AC
open Go Go.A Go.A.Lex
def zge (f : PFunc) (k : Int) : Bool:=decide (0 ≤ k) && (decide (k < f.blocks.length) && decide (zaa f 2 = 0))
theorem zi0 (f : PFunc) (hf : okF f) (k : Int) : call T 64 [zgS f,vI k] [] = some (vB (zge f k),[]):=by
 rw [ze (fn:=zex) rfl]
 have hc:=zwj f hf 2
 rw [zAa hf] at hc
 simp -implicitDefEqProofs only [go_sem] at hc
 by_cases c1 : 0 ≤ k
 ·by_cases c2 : k < f.blocks.length
  ·by_cases c3 : zaa f 2 = 0
   ·simp -implicitDefEqProofs only [go_sem,zex,hc,c1,c2,c3,zge]
   ·simp -implicitDefEqProofs only [go_sem,zex,hc,c1,c2,c3,zge]
  ·simp -implicitDefEqProofs only [go_sem,zex,hc,c1,c2,zge]
 ·simp -implicitDefEqProofs only [go_sem,zex,hc,c1,zge]
theorem zk7 {f : PFunc} {k : Int} : zge f k = true ↔ 0 ≤ k ∧ k < f.blocks.length ∧ RightP f 2:=by
 unfold zge
 simp only [yd,decide_eq_true_eq,znG]
abbrev zEW:=List (Int × Bool)
def zvr (D : zEW) (k : Int) : Bool:=(getM k D).getD false
def vIv (k : Int) : V:=.one (.f (.lit (.int .i64 k)))
theorem zEm (k : Int) (D : zpG) : zif k (zof vIv D) = (getM k D).map vIv:=zr2 vIv k D
theorem zAe (k : Int) (o : Int) (D : zpG) : zmg k (V.one (.f (.lit (.int .i64 o)))) (zof vIv D) = zof vIv (zlq k o D):=zrp vIv k o D
def zeC (n at' : Nat) (es : List (List C)) (l : List Int) (σ : zd) : zd :=
 (σ.set (1 + at') (.cells l.length 1 (l.map zj))).set (n + 1) (.cells 0 1 (es.set at' [.own (1 + at') l.length 0 l.length]))
theorem zsS (n at' : Nat) (hat : at' < n) (es : List (List C)) (l l' : List Int) (a : List C) (σ : zd) : zeC n at' (es.set at' a) l' (zeC n at' es l σ) = zeC n at' es l' σ:=by
 unfold zeC
 rw [List.set_comm _ _ (show n + 1 ≠ 1 + at' by omega),yp,yp,yp]
structure RInv (n at' : Nat) (D : zpG) (es : List (List C)) (l : List Int) (σ : zd) : Prop where
 len : σ.length ≤ 1000000
 elen : es.length = n
 main : σ[n + 1]? = some (.cells 0 1 es)
 at0 : es[at']? = some [.own (1 + at') l.length 0 l.length]
 row : σ[1 + at']? = some (.cells l.length 1 (l.map zj))
 map : σ[n + 2]? = some (.mp (zof vIv D))
theorem RInv.step {n at' : Nat} {D : zpG} {es : List (List C)} {l : List Int} {σ : zd} (h : RInv n at' D es l σ) (hat : at' < n) (l' : List Int) :
  RInv n at' D (es.set at' [.own (1 + at') l'.length 0 l'.length]) l' (zeC n at' es l' σ):=by
 have h1 : n + 1 < σ.length:=(yg.1 h.main).1
 have h2 : 1 + at' < σ.length:=(yg.1 h.row).1
 unfold zeC
 refine ⟨by simp only [yc]; exact h.len,by rw [yc]; exact h.elen,?_,?_,?_,?_⟩
 ·rw [yb (by simpa using h1)]
 ·rw [yb (by rw [h.elen]; exact hat)]
 ·rw [ya (by omega),yb h2]
 ·rw [ya (by omega),ya (by omega)]
  exact h.map
theorem RInv.same {n at' : Nat} {D : zpG} {es : List (List C)} {l : List Int} {σ : zd} (h : RInv n at' D es l σ) : zeC n at' es l σ = σ:=by
 unfold zeC
 obtain ⟨hl,he⟩:=yg.1 h.at0
 have e1 : es.set at' [.own (1 + at') l.length 0 l.length] = es:=by rw [← he]; exact yu hl
 rw [e1]
 have e2 : σ.set (1 + at') (.cells l.length 1 (l.map zj)) = σ:=by
  obtain ⟨hr,hre⟩:=yg.1 h.row
  rw [← hre]; exact yu hr
 rw [e2]
 obtain ⟨hr,hre⟩:=yg.1 h.main
 rw [← hre]; exact yu hr
section
variable (n at' : Nat) (hn : n ≤ 1000) (hat : at' < n) (D : zpG) (args : List Int) (hargs : args.length ≤ 4294967296) (v5 v7 v11 v12 v13 : V)
include hn hat hargs
theorem zz9 : ∀ (d j : Nat) (l : List Int) (es : List (List C)) (σ : zd) (a0 a1 a2 a8 a9 a10 a14 a18 a19 a20 a21 : V),args.length - j = d → j ≤ args.length → l.length + d ≤ 1000000000 → RInv n at' D es l σ →
  exec T zfX ⟨[a0,a1,a2,.one (.own (n + 1) 0 0 n),.one (.map (n + 2)),v5,vI at',v7,a8,a9,a10,v11,v12,v13,a14,vIs args,vI args.length,vI j,a18,a19,a20,a21],σ,0,0⟩ =
   some (.exit 2,⟨[vU,vU,vU,.one (.own (n + 1) 0 0 n),.one (.map (n + 2)),v5,vI at',v7,vU,vU,vU,v11,v12,v13,vU,vU,vU,vU,vU,vU,vU,vU],zeC n at' es (l ++ zhv D (args.drop j)) σ,0,0⟩):=by
 intro d
 induction d with
 | zero =>
   intro j l es σ a0 a1 a2 a8 a9 a10 a14 a18 a19 a20 a21 h1 h2 h3 hI
   have hj : j = args.length:=by omega
   subst hj
   have hlen:=hI.len
   have hd : (σ.length ≤ 1000000) = True:=eq_true hI.len
   have e : args.drop args.length = []:=by simp
   rw [xl zfX rfl,zhP,e,zhv,yE,hI.same]
   simp -implicitDefEqProofs only [go_sem,yL,hd]
 | succ d ih =>
   intro j l es σ a0 a1 a2 a8 a9 a10 a14 a18 a19 a20 a21 h1 h2 h3 hI
   have hj : j < args.length:=by omega
   have hdj : args.drop j = args[j] :: args.drop (j + 1):=yx hj
   have hd : (σ.length ≤ 1000000) = True:=eq_true hI.len
   have hm:=hI.map
   have hmain:=hI.main
   have hrow:=hI.row
   have ha:=hI.at0
   have hg:=zEm args[j] D
   have hlk : ((at' : Int) < (n : Int)) = True:=by simp; omega
   have hka : (at' + 1 ≤ n) = True:=by simp; omega
   have hkb : (at' < n) = True:=eq_true hat
   have hel : es.length = n:=hI.elen
   rw [xl zfX rfl,zhP,hdj]
   cases e : getM args[j] D with
   | none =>
     rw [e] at hg
     have:=ih (j + 1) l es σ vU vU vU vU vU vU vU vU vU vU vU (by omega) (by omega) (by omega) hI
     rw [zhv,e]
     simp -implicitDefEqProofs only [go_sem] at hg this
     simp -implicitDefEqProofs only [go_sem,ilt hj,zp hj,ri,hm,hg,hd,za hj hargs,this]
   | some k =>
     rw [e] at hg
     have hI':=hI.step hat (l ++ [k])
     have:=ih (j + 1) (l ++ [k]) _ _ vU vU vU vU vU vU vU vU vU vU vU (by omega) (by omega) (by simp; omega) hI'
     rw [zsS n at' hat,yJ,List.cons_append,yF] at this
     rw [zhv,e]
     have s3 : ∀ (τ : zd) o,(τ.set (1 + at') o)[n + 1]? = τ[n + 1]?:=fun τ o => ya (by omega)
     have hlim : (l.length + 1 ≤ LIM) = True:=eq_true (by unfold LIM; omega)
     have hpos : (0 < l.length + 1) = True:=eq_true (by omega)
     have htk : (l.map zj).take l.length = l.map zj:=yt (by simp)
     have hc : l.map zj ++ [[C.f (.lit (.int .i64 k))]] = (l ++ [k]).map zj:=by simp [zj]
     have hl1 : (l ++ [k]).length = l.length + 1:=by simp
     have hd2 : ∀ (X Y : Ob),(((σ.set (1 + at') X).set (n + 1) Y).length ≤ 1000000) = True:=fun X Y => eq_true (by simpa using hI.len)
     simp -implicitDefEqProofs only [go_sem,vIv] at hg
     simp -implicitDefEqProofs only [go_sem,zeC,← hc,hl1] at this
     simp -implicitDefEqProofs only [go_sem,zeC,ilt hj,zp hj,ri,hm,hmain,hrow,ha,hg,hd,hd2,hlk,hka,hkb,hel,s3,hlim,hpos,htk,← hc,hl1,ye,yf,za hj hargs]
     exact this
end
theorem ziw (l : List Int) (n : Nat) (hn : l.length = n) (hl : n ≤ 4294967296) (σ : zd) (id ver : Nat) (hσ : σ[id]? = some (.cells ver 1 (l.map zj))) :
  call T 118 [.one (.own id ver 0 n)] σ = some (vIs (zm l),σ.set id (.cells (ver + 1) 1 [])):=by
 rw [zml (g:=zff) rfl]
 subst hn
 simp [zff,hσ,zhE,LIM,hl,zdb,zki,zkg,vsl]
 exact fun _ _ => rfl
structure HG (n k : Nat) (D : zpG) (imp : List Int) (done : List (List Int)) (σ : zd) : Prop where
 len : σ.length ≤ n + 4 + k
 len2 : n + 4 ≤ σ.length
 dlen : done.length = k
 main : ∃ es,σ[n + 1]? = some (.cells 0 1 es) ∧ es.length = n ∧ (∀ i (h : i < done.length),es[i]? = some [.f (.sl (done[i].map ri))]) ∧ ∀ i,k ≤ i → i < n → es[i]? = some [.own (1 + i) 0 0 0]
 rows : ∀ i,k ≤ i → i < n → σ[1 + i]? = some (.cells 0 1 [])
 map : σ[n + 2]? = some (.mp (zof vIv D))
 tok : σ[n + 3]? = some (.tok 1 [imp.length])
end AC
namespace AC
open Go Go.A Go.A.Lex
theorem zpE (l : List Int) (n : Nat) (hn : l.length = n) (hl : n ≤ 4294967296) (σ : zd) (id ver : Nat) (hσ : σ[id]? = some (.cells ver 1 (l.map zj))) :
  call T 117 [.one (.own id ver 0 n)] σ = some (.tup [],σ.set id (.cells ver 1 ((zbX l).map zj))):=by
 rw [zml (g:=zlj) rfl]
 subst hn
 simp [zlj,hσ,zhE,LIM,hl,zdb,zki,zpu]
end AC
namespace AC
open Go Go.A Go.A.Lex
theorem zvW : ∀ l : List Int,znv 1 (l.map ri) = true
 | [] => rfl
 | x :: l => by rw [yC,znv,zvW l]; rfl
structure HF (n : Nat) (rows : List (List Int)) (σ : zd) : Prop where
 rlen : rows.length = n
 len2 : n + 4 ≤ σ.length
 main : ∃ es,σ[n + 1]? = some (.cells 0 1 es) ∧ es.length = n ∧ ∀ i (h : i < rows.length),es[i]? = some [.f (.sl (rows[i].map ri))]
theorem HG.step {n k : Nat} {D D' : zpG} {imp imp' : List Int} {done : List (List Int)} {σ τ : zd} (h : HG n k D imp done σ) (hk : k < n) {es : List (List C)} (he : σ[n + 1]? = some (.cells 0 1 es)) (row : List Int)
  (hl : τ.length = σ.length + 1) (h1 : τ[n + 1]? = some (.cells 0 1 (es.set k [.f (.sl (row.map ri))]))) (h2 : ∀ i,k < i → i < n → τ[1 + i]? = σ[1 + i]?) (h3 : τ[n + 2]? = some (.mp (zof vIv D'))) (h4 : τ[n + 3]? = some (.tok 1 [imp'.length])) :
  HG n (k + 1) D' imp' (done ++ [row]) τ:=by
 obtain ⟨es',e0,e1,e2,e3⟩:=h.main
 rw [he] at e0
 simp only [Option.some.injEq,Ob.cells.injEq] at e0
 obtain ⟨_,_,rfl⟩:=e0
 have hd:=h.dlen
 refine ⟨by have:=h.len; omega,by have:=h.len2; omega,by simp [hd],⟨_,h1,by rw [yc]; exact e1,fun i hi => ?_,fun i i1 i2 => ?_⟩,fun i i1 i2 => ?_,h3,h4⟩
 ·by_cases c : i = k
  ·subst c
   rw [yb (by omega),List.getElem_append_right (by omega)]
   simp [hd]
  ·have hi' : i < done.length:=by simp at hi; omega
   rw [ya (by omega),List.getElem_append_left hi']
   exact e2 i hi'
 ·rw [ya (by omega)]
  exact e3 i (by omega) i2
 ·rw [h2 i (by omega) i2]
  exact h.rows i (by omega) i2
section
variable (b : PBlock) (hb : okB b) (hs : ∀ o ∈ b.ops,o.args.length ≤ 64) (n : Nat) (hn : n = b.ops.length) (hn2 : n ≤ 1000)
include hb hs hn hn2
set_option maxHeartbeats 4000000 in
theorem zyU : ∀ (d k : Nat) (D : zpG) (imp : List Int) (done : List (List Int)) (σ : zd) (a0 a1 a2 a6 a7 a8 a9 a10 a14 a15 a16 a17 a18 a19 a20 a21 : V),n - k = d → k ≤ n → imp.length ≤ k → HG n k D imp done σ →
  ∃ σ',HF n (done ++ zdo k D imp (b.ops.drop k)) σ' ∧
  exec T zfP ⟨[a0,a1,a2,.one (.own (n + 1) 0 0 n),.one (.map (n + 2)),.one (.ap (n + 3) 0 (imp.map ri)),a6,a7,a8,a9,a10,vL (b.ops.map ro),vI n,vI k,a14,a15,a16,a17,a18,a19,a20,a21],σ,0,0⟩ =
   some (.exit 0,⟨[vU,vU,vU,.one (.own (n + 1) 0 0 n),vU,vU,vU,vU,vU,vU,vU,vU,vU,vU,vU,vU,vU,vU,vU,vU,vU,vU],σ',0,0⟩):=by
 intro d
 induction d with
 | zero =>
   intro k D imp done σ a0 a1 a2 a6 a7 a8 a9 a10 a14 a15 a16 a17 a18 a19 a20 a21 h1 h2 hi hI
   have hk : k = n:=by omega
   subst hk
   have hlen':=hI.len
   have hd : (σ.length ≤ 1000000) = True:=by simp; omega
   have e : b.ops.drop k = []:=List.drop_eq_nil_of_le (by omega)
   refine ⟨σ,?_,?_⟩
   ·rw [e,zdo,yE]
    obtain ⟨es,e0,e1,e2,_⟩:=hI.main
    exact ⟨hI.dlen,hI.len2,es,e0,e1,e2⟩
   ·rw [xl zfP rfl,zhK]
    simp -implicitDefEqProofs only [go_sem,yL,hd]
 | succ d ih =>
   intro k D imp done σ a0 a1 a2 a6 a7 a8 a9 a10 a14 a15 a16 a17 a18 a19 a20 a21 h1 h2 hi hI
   have hk : k < b.ops.length:=by omega
   have hkn : k < n:=by omega
   have hdk : b.ops.drop k = b.ops[k] :: b.ops.drop (k + 1):=yx hk
   obtain ⟨es,hm1,hm2,hm3,hm4⟩:=hI.main
   have hmap:=hI.map
   have htok:=hI.tok
   have hr:=hI.rows k (yP _) hkn
   have hlen:=hI.len2
   have hlen':=hI.len
   have ha:=hs _ (yB hk)
   have hR : RInv n k D es [] (σ ++ [.cells 0 6 [cOp b.ops[k]]]):=⟨by simp; omega,hm2,zgg hm1 _,hm4 k (yP _) hkn,zgg hr _,zgg hmap _⟩
   have hA:=fun a0 a1 a2 a8 a9 a10 a14 a18 a19 a20 a21 => zz9 n k (by omega) hkn D b.ops[k].args (by omega) (.one (.ap (n + 3) 0 (imp.map ri))) (.one (.ptr σ.length 0 0 0)) (vL (b.ops.map ro)) (vI n) (vI k) b.ops[k].args.length 0 [] es _ a0 a1 a2 a8 a9 a10 a14 a18 a19 a20 a21 (by omega) (by omega) (by simp; omega) hR
   rw [yM,yF] at hA
   obtain ⟨l,hl⟩ : ∃ l,l = zhv D b.ops[k].args:=⟨_,rfl⟩
   rw [← hl] at hA
   have hll : l.length ≤ 64:=by rw [hl]; exact yN (zlN D _) ha
   have lenτ : (zeC n k es l (σ ++ [.cells 0 6 [cOp b.ops[k]]])).length = σ.length + 1:=by simp [zeC]
   have t1 : (zeC n k es l (σ ++ [.cells 0 6 [cOp b.ops[k]]]))[n + 1]? = some (.cells 0 1 (es.set k [.own (1 + k) l.length 0 l.length])):=by
    unfold zeC; rw [yb (by simp; omega)]
   have t2 : (zeC n k es l (σ ++ [.cells 0 6 [cOp b.ops[k]]]))[1 + k]? = some (.cells l.length 1 (l.map zj)):=by
    unfold zeC; rw [ya (by omega),yb (by simp; omega)]
   have t0 : ∀ j,j ≠ n + 1 → j ≠ 1 + k → (zeC n k es l (σ ++ [.cells 0 6 [cOp b.ops[k]]]))[j]? = (σ ++ [.cells 0 6 [cOp b.ops[k]]])[j]?:=fun j j1 j2 => by
    unfold zeC; rw [ya (fun h => j1 h.symm),ya (fun h => j2 h.symm)]
   have t3:=(t0 (n + 2) (by omega) (by omega)).trans (zgg hmap _)
   have t4:=(t0 (n + 3) (by omega) (by omega)).trans (zgg htok _)
   have t5 : (zeC n k es l (σ ++ [.cells 0 6 [cOp b.ops[k]]]))[σ.length]? = some (.cells 0 6 [cOp b.ops[k]]):=by rw [t0 _ (by omega) (by omega)]; simp
   have t6 : ∀ i,k < i → i < n → (zeC n k es l (σ ++ [.cells 0 6 [cOp b.ops[k]]]))[1 + i]? = σ[1 + i]?:=fun i i1 i2 => by
    rw [t0 _ (by omega) (by omega),yy (by omega)]
   clear t0
   generalize zeC n k es l (σ ++ [.cells 0 6 [cOp b.ops[k]]]) = τ at *
   have hp:=zpW b.ops[k].kind
   have hk2 : ((k : Int) < (n : Int)) = True:=by simp; omega
   have hk3 : (k < n) = True:=eq_true hkn
   have hka : (k + 1 ≤ n) = True:=by simp; omega
   have hd1 : (σ.length + 1 ≤ 1000000) = True:=by simp; omega
   have hew : (es.set k [.own (1 + k) l.length 0 l.length])[k]? = some [C.own (1 + k) l.length 0 l.length]:=yb (by omega)
   have hesl : (es.set k [.own (1 + k) l.length 0 l.length]).length = n:=by rw [yc]; exact hm2
   have u12 : ∀ (ρ : zd) o,(ρ.set (1 + k) o)[n + 1]? = ρ[n + 1]?:=fun ρ o => ya (by omega)
   have u13 : ∀ (ρ : zd) o,(ρ.set (1 + k) o)[n + 2]? = ρ[n + 2]?:=fun ρ o => ya (by omega)
   have u14 : ∀ (ρ : zd) o,(ρ.set (1 + k) o)[n + 3]? = ρ[n + 3]?:=fun ρ o => ya (by omega)
   have u15 : ∀ (ρ : zd) o,(ρ.set (1 + k) o)[σ.length]? = ρ[σ.length]?:=fun ρ o => ya (by omega)
   have u21 : ∀ (ρ : zd) o,(ρ.set (n + 1) o)[1 + k]? = ρ[1 + k]?:=fun ρ o => ya (by omega)
   have u23 : ∀ (ρ : zd) o,(ρ.set (n + 1) o)[n + 2]? = ρ[n + 2]?:=fun ρ o => ya (by omega)
   have u24 : ∀ (ρ : zd) o,(ρ.set (n + 1) o)[n + 3]? = ρ[n + 3]?:=fun ρ o => ya (by omega)
   have u25 : ∀ (ρ : zd) o,(ρ.set (n + 1) o)[σ.length]? = ρ[σ.length]?:=fun ρ o => ya (by omega)
   have u31 : ∀ (ρ : zd) o,(ρ.set (n + 2) o)[1 + k]? = ρ[1 + k]?:=fun ρ o => ya (by omega)
   have u32 : ∀ (ρ : zd) o,(ρ.set (n + 2) o)[n + 1]? = ρ[n + 1]?:=fun ρ o => ya (by omega)
   have u34 : ∀ (ρ : zd) o,(ρ.set (n + 2) o)[n + 3]? = ρ[n + 3]?:=fun ρ o => ya (by omega)
   have u41 : ∀ (ρ : zd) o,(ρ.set (n + 3) o)[1 + k]? = ρ[1 + k]?:=fun ρ o => ya (by omega)
   have u42 : ∀ (ρ : zd) o,(ρ.set (n + 3) o)[n + 1]? = ρ[n + 1]?:=fun ρ o => ya (by omega)
   have u43 : ∀ (ρ : zd) o,(ρ.set (n + 3) o)[n + 2]? = ρ[n + 2]?:=fun ρ o => ya (by omega)
   have u45 : ∀ (ρ : zd) o,(ρ.set (n + 3) o)[σ.length]? = ρ[σ.length]?:=fun ρ o => ya (by omega)
   have us : ∀ (ρ : zd) o j,(j < ρ.length) → (ρ.set j o)[j]? = some o:=fun ρ o j h => by simp [h]
   have l1 : (1 + k < σ.length + 1) = True:=by simp; omega
   have l2 : (n + 1 < σ.length + 1) = True:=by simp; omega
   have l3 : (n + 2 < σ.length + 1) = True:=by simp; omega
   have l4 : (n + 3 < σ.length + 1) = True:=by simp; omega
   have hw:=za hk hb.ops
   have fin:=fun (D' : zpG) (imp' row : List Int) (τ' : zd) (hi' : imp'.length ≤ k + 1) (h : HG n (k + 1) D' imp' (done ++ [row]) τ') => ih (k + 1) D' imp' (done ++ [row]) τ' vU vU vU vU vU vU vU vU vU vU vU vU vU vU vU vU (by omega) (by omega) hi' h
   have eqd : ∀ X,done ++ X :: zdo (k + 1) (zep D k b.ops[k]) (ziM imp k b.ops[k]) (b.ops.drop (k + 1)) = done ++ [X] ++ zdo (k + 1) (zep D k b.ops[k]) (ziM imp k b.ops[k]) (b.ops.drop (k + 1)):=fun X => by rw [yJ]; rfl
   rw [hdk,zdo,eqd,xl zfP rfl,zhK]
   cases e1 : pure b.ops[k].kind with
   | true =>
     rw [e1] at hp
     have er : zk4 D imp b.ops[k] = zm (zbX l):=by unfold zk4; rw [if_pos e1,yE,hl]
     have ei : ziM imp k b.ops[k] = imp:=by unfold ziM; rw [if_pos e1]
     have hew2:=hew
     have hS:=fun ρ h => zpE l l.length rfl (by omega) ρ (1 + k) l.length h
     have hC:=fun ρ h => ziw (zbX l) l.length (by simp [zbX]) (by omega) ρ (1 + k) l.length h
     rw [er,ei]
     by_cases e2 : 0 < b.ops[k].dst
     ·have ed : zep D k b.ops[k] = zlq b.ops[k].dst (k : Int) D:=by unfold zep; rw [if_pos e2]
      have hpm:=zAe b.ops[k].dst (k : Int) D
      rw [ed]
      have fin':=fun (τ' : zd) => fin (zlq b.ops[k].dst (k : Int) D) (imp) (zm (zbX l)) τ' (by omega)
      simp -implicitDefEqProofs only [go_sem] at hp hA hS hC hpm fin'
      simp -implicitDefEqProofs only [go_sem,hk2,hk3,ilt hk,zp hk,ro,hp,hA,e2,hpm,t1,t2,t3,t4,t5,u12,u13,u14,u15,u21,u23,u24,u25,u31,u32,u34,u41,u42,u43,u45,us,l1,l2,l3,l4,lenτ,hew,hew2,hesl,hka,hd1,hS,hC,ye,yf,hw,yc,yh,yn]
      refine fin' _ (hI.step hkn hm1 _ ?_ ?_ ?_ ?_ ?_)
      ·first | exact lenτ | (simp only [yc]; exact lenτ)
      ·rw [yb (by first | omega | (simp only [yc]; omega))]
       try simp only [yp]
      ·intro i i1 i2
       have:=t6 i i1 i2
       repeat rw [ya (by omega)]
       exact this
      ·repeat rw [ya (by omega)]
       exact yb (by first | omega | (simp only [yc]; omega))
      ·repeat rw [ya (by omega)]
       exact t4
     ·have ed : zep D k b.ops[k] = D:=by unfold zep; rw [if_neg e2]
      rw [ed]
      have fin':=fun (τ' : zd) => fin (D) (imp) (zm (zbX l)) τ' (by omega)
      simp -implicitDefEqProofs only [go_sem] at hp hA hS hC fin'
      simp -implicitDefEqProofs only [go_sem,hk2,hk3,ilt hk,zp hk,ro,hp,hA,e2,t1,t2,t3,t4,t5,u12,u13,u14,u15,u21,u23,u24,u25,u31,u32,u34,u41,u42,u43,u45,us,l1,l2,l3,l4,lenτ,hew,hew2,hesl,hka,hd1,hS,hC,ye,yf,hw,yc,yh,yn]
      refine fin' _ (hI.step hkn hm1 _ ?_ ?_ ?_ ?_ ?_)
      ·first | exact lenτ | (simp only [yc]; exact lenτ)
      ·rw [yb (by first | omega | (simp only [yc]; omega))]
       try simp only [yp]
      ·intro i i1 i2
       have:=t6 i i1 i2
       repeat rw [ya (by omega)]
       exact this
      ·repeat rw [ya (by omega)]
       exact t3
      ·repeat rw [ya (by omega)]
       exact t4
   | false =>
     rw [e1] at hp
     have e1' : ¬ pure b.ops[k].kind = true:=by rw [e1]; simp
     have er : zk4 D imp b.ops[k] = zm (zbX (l ++ imp)):=by unfold zk4; rw [if_neg e1',hl]
     have ei : ziM imp k b.ops[k] = imp ++ [(k : Int)]:=by unfold ziM; rw [if_neg e1']
     have hok : znv 1 (imp.map ri) = true:=zvW imp
     have hil : (imp.length + 1 ≤ LIM) = True:=eq_true (by unfold LIM; omega)
     have himp : imp.map ri ++ [[Fz.lit (Value.int IntKind.i64 (k : Int))]] = (imp ++ [(k : Int)]).map ri:=by simp [ri]
     rw [er,ei]
     by_cases ez : l.length + imp.length = 0
     ·have z1 : l = []:=yv (by omega)
      have z2 : imp = []:=yv (by omega)
      subst z1 z2
      have hew2 : (es.set k [.own (1 + k) 0 0 0])[k]? = some [C.own (1 + k) 0 0 0]:=yb (by omega)
      have hew3 : ((es.set k [.own (1 + k) 0 0 0]).set k [.own (1 + k) 0 0 0])[k]? = some [C.own (1 + k) 0 0 0]:=yb (by rw [yc]; omega)
      have hesl0 : (es.set k [.own (1 + k) 0 0 0]).length = n:=by rw [yc]; exact hm2
      have hrl : (ri (k : Int)).length = 1:=rfl
      have hil0 : (1 ≤ LIM) = True:=eq_true (by unfold LIM; omega)
      have hil1 : (0 + 1 ≤ LIM) = True:=eq_true (by unfold LIM; omega)
      have hS:=fun ρ h => zpE [] 0 rfl (by omega) ρ (1 + k) 0 h
      have hC:=fun ρ h => ziw (zbX []) 0 (by simp [zbX]) (by omega) ρ (1 + k) 0 h
      by_cases e2 : 0 < b.ops[k].dst
      ·have ed : zep D k b.ops[k] = zlq b.ops[k].dst (k : Int) D:=by unfold zep; rw [if_pos e2]
       have hpm:=zAe b.ops[k].dst (k : Int) D
       rw [ed]
       have fin':=fun (τ' : zd) => fin (zlq b.ops[k].dst (k : Int) D) ([] ++ [(k : Int)]) (zm (zbX ([] ++ []))) τ' (by simp)
       simp -implicitDefEqProofs only [go_sem] at hp hA hS hC hpm fin' himp
       simp -implicitDefEqProofs only [go_sem,hk2,hk3,ilt hk,zp hk,ro,hp,hA,hil,hil0,hil1,himp,hew3,hesl0,hrl,false_and,if_false,e2,hpm,t1,t2,t3,t4,t5,u12,u13,u14,u15,u21,u23,u24,u25,u31,u32,u34,u41,u42,u43,u45,us,l1,l2,l3,l4,lenτ,hew,hew2,hesl,hka,hd1,hS,hC,ye,yf,hw,yc,yh,yn]
       refine fin' _ (hI.step hkn hm1 _ ?_ ?_ ?_ ?_ ?_)
       ·first | exact lenτ | (simp only [yc]; exact lenτ)
       ·rw [yb (by first | omega | (simp only [yc]; omega))]
        try simp only [yp]
       ·intro i i1 i2
        have:=t6 i i1 i2
        repeat rw [ya (by omega)]
        exact this
       ·repeat rw [ya (by omega)]
        exact yb (by first | omega | (simp only [yc]; omega))
       ·repeat rw [ya (by omega)]
        rw [yb (by first | omega | (simp only [yc]; omega))]
        try simp
      ·have ed : zep D k b.ops[k] = D:=by unfold zep; rw [if_neg e2]
       rw [ed]
       have fin':=fun (τ' : zd) => fin (D) ([] ++ [(k : Int)]) (zm (zbX ([] ++ []))) τ' (by simp)
       simp -implicitDefEqProofs only [go_sem] at hp hA hS hC fin' himp
       simp -implicitDefEqProofs only [go_sem,hk2,hk3,ilt hk,zp hk,ro,hp,hA,hil,hil0,hil1,himp,hew3,hesl0,hrl,false_and,if_false,e2,t1,t2,t3,t4,t5,u12,u13,u14,u15,u21,u23,u24,u25,u31,u32,u34,u41,u42,u43,u45,us,l1,l2,l3,l4,lenτ,hew,hew2,hesl,hka,hd1,hS,hC,ye,yf,hw,yc,yh,yn]
       refine fin' _ (hI.step hkn hm1 _ ?_ ?_ ?_ ?_ ?_)
       ·first | exact lenτ | (simp only [yc]; exact lenτ)
       ·rw [yb (by first | omega | (simp only [yc]; omega))]
        try simp only [yp]
       ·intro i i1 i2
        have:=t6 i i1 i2
        repeat rw [ya (by omega)]
        exact this
       ·repeat rw [ya (by omega)]
        exact t3
       ·repeat rw [ya (by omega)]
        rw [yb (by first | omega | (simp only [yc]; omega))]
        try simp
     ·have hpos : (0 < l.length + imp.length) = True:=eq_true (by omega)
      have hlm : (l.length + imp.length ≤ LIM) = True:=eq_true (by unfold LIM; omega)
      have htk : (l.map zj).take l.length = l.map zj:=yt (by simp)
      have hcc : l.map zj ++ (imp.map ri).map (fun e => e.map C.f) = (l ++ imp).map zj:=by simp [zj,ri,Function.comp_def]
      have hew2 : ((es.set k [.own (1 + k) l.length 0 l.length]).set k [.own (1 + k) (l.length + 1) 0 (l.length + imp.length)])[k]? = some [C.own (1 + k) (l.length + 1) 0 (l.length + imp.length)]:=yb (by rw [yc]; omega)
      have hS:=fun ρ h => zpE (l ++ imp) (l.length + imp.length) (by simp) (by omega) ρ (1 + k) (l.length + 1) h
      have hC:=fun ρ h => ziw (zbX (l ++ imp)) (l.length + imp.length) (by simp [zbX]) (by omega) ρ (1 + k) (l.length + 1) h
      by_cases e2 : 0 < b.ops[k].dst
      ·have ed : zep D k b.ops[k] = zlq b.ops[k].dst (k : Int) D:=by unfold zep; rw [if_pos e2]
       have hpm:=zAe b.ops[k].dst (k : Int) D
       rw [ed]
       have fin':=fun (τ' : zd) => fin (zlq b.ops[k].dst (k : Int) D) (imp ++ [(k : Int)]) (zm (zbX (l ++ imp))) τ' (by simp; omega)
       simp -implicitDefEqProofs only [go_sem] at hp hA hS hC hpm fin' himp
       simp -implicitDefEqProofs only [go_sem,hk2,hk3,ilt hk,zp hk,ro,hp,hA,hil,himp,hok,hpos,hlm,htk,hcc,e2,hpm,t1,t2,t3,t4,t5,u12,u13,u14,u15,u21,u23,u24,u25,u31,u32,u34,u41,u42,u43,u45,us,l1,l2,l3,l4,lenτ,hew,hew2,hesl,hka,hd1,hS,hC,ye,yf,hw,yc,yh,yn]
       refine fin' _ (hI.step hkn hm1 _ ?_ ?_ ?_ ?_ ?_)
       ·first | exact lenτ | (simp only [yc]; exact lenτ)
       ·rw [yb (by first | omega | (simp only [yc]; omega))]
        try simp only [yp]
       ·intro i i1 i2
        have:=t6 i i1 i2
        repeat rw [ya (by omega)]
        exact this
       ·repeat rw [ya (by omega)]
        exact yb (by first | omega | (simp only [yc]; omega))
       ·repeat rw [ya (by omega)]
        rw [yb (by first | omega | (simp only [yc]; omega))]
        try simp
      ·have ed : zep D k b.ops[k] = D:=by unfold zep; rw [if_neg e2]
       rw [ed]
       have fin':=fun (τ' : zd) => fin (D) (imp ++ [(k : Int)]) (zm (zbX (l ++ imp))) τ' (by simp; omega)
       simp -implicitDefEqProofs only [go_sem] at hp hA hS hC fin' himp
       simp -implicitDefEqProofs only [go_sem,hk2,hk3,ilt hk,zp hk,ro,hp,hA,hil,himp,hok,hpos,hlm,htk,hcc,e2,t1,t2,t3,t4,t5,u12,u13,u14,u15,u21,u23,u24,u25,u31,u32,u34,u41,u42,u43,u45,us,l1,l2,l3,l4,lenτ,hew,hew2,hesl,hka,hd1,hS,hC,ye,yf,hw,yc,yh,yn]
       refine fin' _ (hI.step hkn hm1 _ ?_ ?_ ?_ ?_ ?_)
       ·first | exact lenτ | (simp only [yc]; exact lenτ)
       ·rw [yb (by first | omega | (simp only [yc]; omega))]
        try simp only [yp]
       ·intro i i1 i2
        have:=t6 i i1 i2
        repeat rw [ya (by omega)]
        exact this
       ·repeat rw [ya (by omega)]
        exact t3
       ·repeat rw [ya (by omega)]
        rw [yb (by first | omega | (simp only [yc]; omega))]
        try simp
end
end AC
namespace AC
open Go Go.A Go.A.Lex
theorem zvv : ∀ (rows : List (List Int)) (es : List (List C)),es.length = rows.length → (∀ i (h : i < rows.length),es[i]? = some [.f (.sl (rows[i].map ri))]) → zaq es = some (rows.map rl)
 | [],[],_,_ => rfl
 | [],_ :: _,h,_ => by simp at h
 | _ :: _,[],h,_ => by simp at h
 | l :: rows,e :: es,h,hi => by
   have h0:=hi 0 (by simp)
   simp only [yr,Option.some.injEq,yz] at h0
   have ih:=zvv rows es (by simpa using h) fun i hl => by have:=hi (i + 1) (by simpa using hl); simpa using this
   subst h0
   simp [zaq,ih,zdl,zux,zfE,rl]
section
variable (b : PBlock) (hb : okB b) (hs : ∀ o ∈ b.ops,o.args.length ≤ 64) (n : Nat) (hn : n = b.ops.length) (hn2 : n ≤ 1000)
include hb hs hn hn2
theorem zqn : call T 67 [zoA b] [] = some (vLs (zfA b),[]):=by
 rw [ze (fn:=ziq) rfl]
 have hlim : ((n : Int) ≤ (LIM : Int)) = True:=by simp; unfold LIM; omega
 have hln : (b.ops.length : Int) = n:=by rw [hn]
 have a1 : 1 + n = n + 1:=yO 1 n
 have a2 : n + 1 + 1 = n + 2:=rfl
 have a3 : n + 2 + 1 = n + 3:=rfl
 have h0 : HG n 0 [] [] [] (Ob.cells 0 5 [zq b] :: (List.replicate n (Ob.cells 0 1 []) ++ [Ob.cells 0 1 (yR (zpS 1 [C.f (Fz.sl [])] 0) (yQ n)),Ob.mp [],Ob.tok 1 [0]])):=by
  refine ⟨by simp,by simp,rfl,⟨yR (zpS 1 [C.f (Fz.sl [])] 0) (yQ n),?_,by simp,fun i hi => by simp at hi,fun i _ hi => ?_⟩,fun i _ hi => ?_,?_,?_⟩
  ·rw [ym,yq (by simp)]
   simp
  ·simp [hi,zpS]
  ·rw [yO,ym,yy (by rw [yD]; exact hi),List.getElem?_replicate,if_pos hi]
  ·rw [ym,yq (by simp)]
   simp [zof]
  ·rw [ym,yq (by simp)]
   simp
 have he:=fun a0 a1 a2 a6 a7 a8 a9 a10 a14 a15 a16 a17 a18 a19 a20 a21 => zyU b hb hs n hn hn2 n 0 [] [] [] _ a0 a1 a2 a6 a7 a8 a9 a10 a14 a15 a16 a17 a18 a19 a20 a21 (by omega) (by omega) (by simp) h0
 simp only [Int.natCast_zero] at he
 obtain ⟨σ',hI,h⟩:=he (zoA b) (.one (.ptr 0 0 0 0)) (vL []) vU vU vU vU vU vU vU vU vU vU vU vU vU
 rw [yF,yM] at hI
 have eS : zdo 0 [] [] b.ops = zfA b:=rfl
 rw [eS] at hI
 obtain ⟨es,hm1,hm2,hm3⟩:=hI.main
 have hrl:=hI.rlen
 have hf:=zvv (zfA b) es (by omega) hm3
 have ht : es.take n = es:=yt (by omega)
 have hd : es.drop 0 = es:=rfl
 have hlen2:=hI.len2
 have hps : (σ'.length ≤ 0) = False:=eq_false (by omega)
 simp -implicitDefEqProofs only [go_sem] at h
 simp -implicitDefEqProofs only [go_sem,ziq,hln,hlim,ye,yf,yh,yD,List.length_cons,List.length_nil,a1,a2,a3,h,hm1,hf,ht,hd,hps]
end
end AC
namespace AC
open Go Go.A Go.A.Lex
def zuA (D : zEW) (done : List Int) : Prop:=∀ x,zvr D x = decide (x ∈ done)
theorem zuA.nil : zuA [] []:=fun x => by simp [zvr,getM]
theorem zuA.put {D : zEW} {done : List Int} (h : zuA D done) (x : Int) : zuA (zlq x true D) (done ++ [x]):=fun y => by
 have hy:=h y
 unfold zvr at hy ⊢
 rw [zt4]
 by_cases c : x = y
 ·rw [if_pos c]; simp [c]
 ·rw [if_neg c,hy]
  have : (y ∈ done ++ [x]) ↔ y ∈ done:=by simp; exact fun e => absurd e.symm c
  rw [Bool.eq_iff_iff,decide_eq_true_eq,decide_eq_true_eq,this]
theorem zuA.all {D : zEW} {done : List Int} (h : zuA D done) (l : List Int) : l.all (zvr D) = l.all fun y => decide (y ∈ done):=by
 congr 1
 exact funext h
section
variable (b : PBlock) (n : Nat) (hn : n = b.ops.length) (hn2 : n ≤ 1000) (on : List (List Int)) (hon : on.length = n) (hol : ∀ l ∈ on,l.length ≤ 4294967296) (order : List Int) (ho : order.length = n)
include hn hn2 hon hol ho
end
end AC
namespace AC
open Go Go.A Go.A.Lex
theorem znr (ops : List POp) (a : Nat) : (zhd ops a).length ≤ a:=by
 unfold zhd
 rw [yn]
 exact yN (List.length_filter_le _ _) (by simp)
theorem zlz (b : PBlock) : (zfA b).length = b.ops.length:=by unfold zfA; exact zgn _ _ _ _
section
variable (b : PBlock) (hb : okB b) (h1 : OneDef b.ops) (hs : ∀ o ∈ b.ops,o.args.length ≤ 64) (hn2 : b.ops.length ≤ 1000)
include hb h1 hs hn2
end
def zmk (f : PFunc) (k at' : Int) : List Int:=if zge f k = true ∧ 0 ≤ at' then (match f.blocks[k.toNat]? with | some b => (zfA b).getD at'.toNat [] | none => []) else []
theorem znX (f : PFunc) (hf : okF f) (k at' : Int) : call T 23 [zgS f,vI k,vI at'] [] = some (vIs (zmk f k at'),[]):=by
 rw [ze (fn:=zev) rfl]
 have hr:=zi0 f hf k
 cases e : zge f k with
 | false =>
   have eF : zmk f k at' = []:=by unfold zmk; rw [e,if_neg (fun h => Bool.false_ne_true h.1)]
   rw [e] at hr
   simp -implicitDefEqProofs only [go_sem] at hr
   simp -implicitDefEqProofs only [go_sem,zev,hr,eF]
 | true =>
   obtain ⟨q1,q2,q3⟩:=zk7.1 e
   have hk : k.toNat < f.blocks.length:=by omega
   have hb : f.blocks[k.toNat]? = some f.blocks[k.toNat]:=yk hk
   have hm:=yB hk
   have hc:=zqn f.blocks[k.toNat] (hf.block _ hm) (q3.size hm).2 _ rfl (q3.size hm).1
   have hlen:=zlz f.blocks[k.toNat]
   rw [e] at hr
   simp -implicitDefEqProofs only [go_sem] at hr hc
   by_cases c : at' < 0
   ·have eF : zmk f k at' = []:=by unfold zmk; rw [if_neg (fun h => by omega)]
    simp -implicitDefEqProofs only [go_sem,zev,hr,c,eF]
   ·have c1 : 0 ≤ at':=by omega
    have eF : zmk f k at' = (zfA f.blocks[k.toNat]).getD at'.toNat []:=by unfold zmk; rw [if_pos ⟨e,c1⟩,hb]
    by_cases c2 : (f.blocks[k.toNat].ops.length : Int) ≤ at'
    ·have e0 : (zfA f.blocks[k.toNat]).getD at'.toNat [] = []:=by rw [yo,List.getElem?_eq_none (by omega)]; rfl
     simp -implicitDefEqProofs only [go_sem,zev,hr,c,c2,q1,zp hk,rb,yK,hb,eF,e0]
    ·have e0 : (zfA f.blocks[k.toNat])[at'.toNat]? = some ((zfA f.blocks[k.toNat]).getD at'.toNat []):=by rw [yo,yk (by omega)]; rfl
     simp -implicitDefEqProofs only [go_sem,zev,hr,c,c1,c2,q1,zp hk,rb,rl,yK,hb,hc,eF,e0]
end AC
namespace AC
open Go Go.A Go.A.Lex
section
variable (f : PFunc) (b : PBlock) (hb : okB b) (n : Nat) (hn : n = b.ops.length) (hn2 : n ≤ 1000) (on : List (List Int)) (hon : on.length = n) (hol : ∀ l ∈ on,l.length ≤ 4294967296)
include hb hn hn2 hon hol
end
end AC
namespace AC
open Go Go.A Go.A.Lex
section
variable (f : PFunc) (b : PBlock) (hb : okB b) (n : Nat) (hn : n = b.ops.length) (hn2 : n ≤ 1000) (on : List (List Int)) (hon : on.length = n) (hol : ∀ l ∈ on,l.length ≤ 4294967296)
include hb hn hn2 hon hol
end
end AC
namespace AC
open Go Go.A Go.A.Lex
end AC
