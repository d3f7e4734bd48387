/- A part of the proof of SchedFlat. Conditions: none. -/
import Derived.Test.YtmkncmffaaninaaGreatFBI
import Derived.Test.YtmkncmffaaninaaGreatFAX
set_option linter.all false
open List renaming getElem?_set_ne → ya,getElem?_set_self → yb,length_set → yc,getElem?_eq_some_iff → yg,length_append → yh,all_eq_true → yi,sublist_append_right → yj,mem_cons_of_mem → yk,getElem?_cons_succ → yl,set_set → ym,getElem?_append_right → yn,drop_eq_getElem_cons → yp,length_map → yq,getElem?_eq_getElem → yr,getElem?_cons_zero → ys,mem_cons_self → yt,take_of_length_le → yu,set_getElem_self → yv,eq_nil_of_length_eq_zero → yw,getElem?_map → yx,getD_eq_getElem?_getD → yy,nodup_cons → yz,getElem?_append_left → yA,getElem_cons_zero → yB,getElem_cons_succ → yC,map_cons → yD,length_replicate → yE,append_nil → yG,nil_append → yH,mem_map → yI,mem_cons → yK,append_assoc → yM,getElem_mem → yN,drop_zero → yP,range → yS,map → yT
open Bool renaming and_eq_true → yd,false_and → yo,true_and → yF,not_eq_true' → yL
open Int renaming natCast_nonneg → ye,toNat_natCast → yf,lt_irrefl → yJ
open Option renaming getD_some → yO
open Nat renaming add_comm → yQ,le_refl → yR
namespace AC
open Go Go.A
def zz3 (tree : List Int) (d u : Use) : Prop:=d.block < 0 ∨ (d.block = u.block ∧ d.at' < u.at') ∨ (d.block ≠ u.block ∧ zmk tree d.block u.block = d.block)
structure RightP (f : PFunc) (level : Int) : Prop where
 lvl : 0 ≤ level ∧ level ≤ 2
 may : zlU f = true
 shape : zgb f = true
 typed : zfu f level = true
 values : ∀ d ∈ zL f,value d.v = true
 once : ((zL f).map Use.v).Nodup
 uses : ∀ u ∈ ze2 f,∃ d ∈ zL f,d.v = u.v ∧ d.shape = u.shape ∧ zz3 (zeU (zp f) 0) d u
theorem zpi : ∀ (l pre : List Use),zgm pre l = true ↔ (∀ u ∈ l,value u.v = true) ∧ (l.map Use.v).Nodup ∧ ∀ u ∈ l,∀ x ∈ pre,x.v ≠ u.v
 | [],pre => by simp [zgm]
 | u :: r,pre => by
   rw [zgm,yd,yd,zpi r (pre ++ [u]),zm8,yD,yz];constructor
   ·rintro ⟨⟨c,g⟩,f,d,h⟩
    refine ⟨fun x a => ?_,⟨fun hm => ?_,d⟩,fun x a y b => ?_⟩
    ·rcases yK.1 a with rfl | a
     ·exact c
     ·exact f x a
    ·obtain ⟨x,a,e⟩:=yI.1 hm
     exact h x a u (by simp) e.symm
    ·rcases yK.1 a with rfl | a
     ·exact g y b
     ·exact h x a y (by simp [b])
   ·rintro ⟨c,⟨g,f⟩,d⟩
    refine ⟨⟨c u yt,d u yt⟩,fun x a => c x (yk _ a),f,fun x a y b => ?_⟩;rcases List.mem_append.1 b with b | b
    ·exact d x (yk _ a) y b
    ·rw [List.mem_singleton.1 b]
     exact fun e => g (yI.2 ⟨x,a,e.symm⟩)
theorem zrb : ∀ {defs : List Use},(defs.map Use.v).Nodup → ∀ {d : Use},d ∈ defs → defs.find? (fun u => decide (u.v = d.v)) = some d
 | [],_,_,hd => by simp at hd
 | x :: r,hn,d,hd => by
   rw [yD,yz] at hn;rw [List.find?_cons];rcases yK.1 hd with rfl | hd
   ·simp
   ·rw [decide_eq_false (fun e => hn.1 (yI.2 ⟨d,hd,e.symm⟩))]
    exact zrb hn.2 hd
theorem ziU {defs : List Use} (e : (defs.map Use.v).Nodup) {d : Use} (hd : d ∈ defs) : ¬ zj d.v 0 defs < 0 ∧ zhZ defs d.v = d:=by
 obtain ⟨a,f⟩:=zkC defs d.v 0;have b:=zrb e hd
 have g : ¬ zj d.v 0 defs < 0:=fun c => by
  have:=zm8.1 (a.1 c) d hd;exact this rfl
 refine ⟨g,?_⟩;have:=f (by omega);rw [show zj d.v 0 defs - ((0 : Nat) : Int) = zj d.v 0 defs by omega,b] at this;unfold zhZ;rw [yy,this];rfl
theorem zze {defs : List Use} {v : Int} (h : ¬ zj v 0 defs < 0) : ∃ d ∈ defs,d.v = v:=by
 obtain ⟨a,_⟩:=zkC defs v 0;refine Classical.byContradiction fun b => h (a.2 (zm8.2 fun u hu e => b ⟨u,hu,e⟩))
theorem zoT {defs : List Use} (a : (defs.map Use.v).Nodup) {d : Use} (hd : d ∈ defs) (tree : List Int) (u : Use) (e : d.v = u.v) : zgq defs tree u = true ↔ zz3 tree d u:=by
 unfold zgq zz3;rw [← e,(ziU a hd).2];simp only [Bool.or_eq_true,yd,decide_eq_true_eq,yL,Bool.or_eq_false_iff,decide_eq_false_iff_not,Bool.not_eq_false',or_assoc]
theorem zn3 {f : PFunc} {level : Int} : zac f level = 0 ↔ RightP f level:=by
 unfold zac;constructor
 ·intro h
  split at h
  ·omega
  rename_i c1;split at h
  ·omega
  rename_i c2;split at h
  ·omega
  rename_i c3;split at h
  ·omega
  rename_i c4;split at h
  ·omega
  rename_i c5;split at h
  ·omega
  rename_i c6;split at h
  ·omega
  rename_i c7;split at h
  ·omega
  rename_i c8;simp only [Bool.not_eq_false] at c2 c3 c4 c5 c6 c7 c8;have a:=(zrP (zL f) (zL f) [] rfl).symm.trans c5;obtain ⟨v1,v2,_⟩:=(zpi _ _).1 a;refine ⟨by omega,c2,c3,c4,v1,v2,fun u hu => ?_⟩;have c:=yi.1 c6 u hu;have b:=yi.1 c7 u hu;have i:=yi.1 c8 u hu;unfold zjS at c;simp only [yL,decide_eq_false_iff_not] at c;obtain ⟨d,hd,e⟩:=zze c;refine ⟨d,hd,e,?_,(zoT v2 hd _ u e).1 i⟩;unfold sameShape at b;rw [← e,(ziU v2 hd).2] at b;simpa using b
 ·intro h
  have a : zfG (zL f) 0 (zL f) = true:=(zrP (zL f) (zL f) [] rfl).trans ((zpi _ _).2 ⟨h.values,h.once,fun _ _ _ g => by simp at g⟩)
  have a6 : (ze2 f).all (zjS (zL f)) = true:=yi.2 fun u hu => by
   obtain ⟨d,hd,e,_⟩:=h.uses u hu;unfold zjS;rw [← e];simpa using (ziU h.once hd).1
  have a7 : (ze2 f).all (sameShape (zL f)) = true:=yi.2 fun u hu => by
   obtain ⟨d,hd,e,es,_⟩:=h.uses u hu;unfold sameShape;rw [← e,(ziU h.once hd).2,decide_eq_true_eq];exact es
  have a8 : (ze2 f).all (zgq (zL f) (zeU (zp f) 0)) = true:=yi.2 fun u hu => by
   obtain ⟨d,hd,e,_,j⟩:=h.uses u hu;exact (zoT h.once hd _ u e).2 j
  have k:=h.lvl;rw [if_neg (by omega),if_neg (by simp [h.may]),if_neg (by simp [h.shape]),if_neg (by simp [h.typed]),if_neg (by simp [a]),if_neg (by simp [a6]),if_neg (by simp [a7]),if_neg (by simp [a8])]
theorem zw8 {f : PFunc} {level : Int} (h : zfu f level = true) {b : PBlock} (a : b ∈ f.blocks) {o : POp} (c : o ∈ b.ops) : zgx o = true:=by
 unfold zfu at h;simp only [yd,yi] at h;have:=h.2.2 b a;unfold zjG at this;simp only [yd,yi] at this;have:=this.2 o c;unfold ofS at this;simp only [yd] at this;exact this.2.2
theorem ztx {o : POp} (h : zgx o = true) (hd : 0 < o.dst) : 0 < (zad o).1:=by
 unfold zad;unfold zgx at h;simp only [yd] at h;have hm : zgx o = true:=by unfold zgx; simp only [yd]; exact h
 cases c : zfz o.kind
 ·rw [if_neg (by simp [hm])]
  split
  ·decide
  ·have a:=h.1
   unfold zds at a
   have b : 0 < o.bits:=by
    simp only [yd] at a;have:=zcU a.1;omega
   split <;> exact b
 ·rw [c] at h
  simp at h;omega
theorem zqR : ∀ (l : List PBlock) (k j : Nat) (b : PBlock),l[j]? = some b → (zcX ((k + j : Nat) : Int) 0 b.ops).Sublist (zX k l)
 | [],_,_,_,h => by simp at h
 | c :: l,k,j,b,h => by
   rw [zX]
   cases j with
   | zero =>
     simp only [ys,Option.some.injEq] at h;subst h;rw [Nat.add_zero];exact (List.sublist_append_left _ _).trans (yj _ _)
   | succ j =>
     have:=zqR l (k + 1) j b (by simpa using h);rw [show k + 1 + j = k + (j + 1) by omega] at this;exact this.trans ((yj _ _).trans (yj _ _))
theorem zqz (i : Int) : ∀ (l : List POp) (k j : Nat) (o : POp),l[j]? = some o → 0 < (zad o).1 → ⟨o.dst,zad o,i,((k + j : Nat) : Int)⟩ ∈ zcX i k l
 | [],_,_,_,h,_ => by simp at h
 | x :: l,k,j,o,h,hg => by
   rw [zcX]
   cases j with
   | zero =>
     simp only [ys,Option.some.injEq] at h;subst h;rw [if_pos hg];exact yt
   | succ j =>
     have:=zqz i l (k + 1) j o (by simpa using h) hg;rw [show k + 1 + j = k + (j + 1) by omega] at this;split
     ·exact yk _ this
     ·exact this
theorem zmV (i : Int) : ∀ (l : List POp) (k : Nat),((zcX i k l).map Use.v).Nodup → (∀ o ∈ l,zgx o = true) → ∀ a b (d : a < l.length) (g : b < l.length),a < b → 0 < l[a].dst → l[a].dst ≠ l[b].dst
 | [],_,_,_,a,_,d,_,_,_ => by simp at d
 | o :: l,k,hn,hm,a,b,d,g,hab,hd => by
   cases b with
   | zero => omega
   | succ b =>
     have c : b < l.length:=(by simpa using g);have f : zgx l[b] = true:=hm _ (yk _ (yN c))
     cases a with
     | zero =>
       simp only [yB,yC] at hd ⊢;intro e;rw [zcX,if_pos (ztx (hm o yt) hd),yD,yz] at hn;refine hn.1 (yI.2 ⟨_,zqz i l (k + 1) b l[b] (yr c) (ztx f (by omega)),?_⟩);exact e.symm
     | succ a =>
       simp only [yC] at hd ⊢;refine zmV i l (k + 1) ?_ (fun o h => hm o (yk _ h)) a b (by simpa using d) c (by omega) hd;rw [zcX] at hn;split at hn
       ·exact (yz.1 hn).2
       ·exact hn
theorem zDO {o : POp} (h : zgx o = true) : 0 ≤ o.dst:=by
 unfold zgx at h;simp only [yd] at h;have:=h.2.2.1;split at this
 ·simp at this; omega
 ·have:=zmN.1 this; omega
theorem RightP.oneDef {f : PFunc} {level : Int} (h : RightP f level) {b : PBlock} (i : b ∈ f.blocks) : OneDef b.ops:=by
 have hm : ∀ o ∈ b.ops,zgx o = true:=fun o g => zw8 h.typed i g;obtain ⟨j,p,e⟩:=List.mem_iff_getElem.1 i;have n:=zqR f.blocks 0 j b (by rw [yr p,e])
 have m : ((zcX ((0 + j : Nat) : Int) 0 b.ops).map Use.v).Nodup:=by
  refine List.Nodup.sublist ?_ h.once;refine List.Sublist.map _ (n.trans ?_);unfold zL;exact yj _ _
 refine ⟨fun o g => zDO (hm o g),fun a c k l hd he => ?_⟩;rcases Nat.lt_trichotomy a c with d | d | d
 ·exact absurd he (zmV _ _ _ m hm a c k l d hd)
 ·exact d
 ·exact absurd he.symm (zmV _ _ _ m hm c a l k d (by omega))
theorem RightP.size {f : PFunc} {level : Int} (h : RightP f level) {b : PBlock} (c : b ∈ f.blocks) : b.ops.length ≤ 1000 ∧ ∀ o ∈ b.ops,o.args.length ≤ 64:=by
 have a:=zic h.may;refine ⟨zpD a.2.2.2.1 b c,?_⟩;exact (zqO (a.2.2.2.2 b c)).2
end AC
namespace AC
open Go Go.A Go.A.Lex
def zgt (f : PFunc) (k : Int) : Bool:=decide (0 ≤ k) && (decide (k < f.blocks.length) && decide (zac f 2 = 0))
theorem zjl (f : PFunc) (b : okF f) (k : Int) : call T 64 [zfZ f,vI k] [] = some (vB (zgt f k),[]):=by
 rw [ze (fn:=zeA) rfl];have a:=zwP f b 2;rw [zzS b] at a;simp -implicitDefEqProofs only [go_sem] at a
 by_cases c1 : 0 ≤ k
 ·by_cases c2 : k < f.blocks.length
  ·by_cases c3 : zac f 2 = 0
   ·simp -implicitDefEqProofs only [go_sem,zeA,a,c1,c2,c3,zgt]
   ·simp -implicitDefEqProofs only [go_sem,zeA,a,c1,c2,c3,zgt]
  ·simp -implicitDefEqProofs only [go_sem,zeA,a,c1,c2,zgt]
 ·simp -implicitDefEqProofs only [go_sem,zeA,a,c1,zgt]
theorem zi7 {f : PFunc} {k : Int} : zgt f k = true ↔ 0 ≤ k ∧ k < f.blocks.length ∧ RightP f 2:=by
 unfold zgt;simp only [yd,decide_eq_true_eq,zn3]
abbrev zs8:=List (Int × Bool)
def vBo (b : Bool) : V:=.one (.f (.lit (.bool b)))
theorem zgT (n : Nat) (D : zs8) : C.ltm n (zh4 vBo D) = true:=zuI vBo n (fun a => by simp [vBo,V.lt,C.lt]) D
theorem zyh (k : Int) (D : zs8) : zhj k (zh4 vBo D) = (getM k D).map vBo:=zor vBo k D
theorem zCM (k : Int) (o : Bool) (D : zs8) : zlV k (V.one (.f (.lit (.bool o)))) (zh4 vBo D) = zh4 vBo (zjr k o D):=zoj vBo k o D
def zh7 (D : zs8) (k : Int) : Bool:=(getM k D).getD false
theorem zsI (k : Int) (σ : zd) (m : Nat) (D : zs8) (hm : σ[m]? = some (.mp (zh4 vBo D))) (f : Ok σ) :
  call T 120 [vI k,.one (.ptr σ.length 0 0 0)] (σ ++ [.cells 0 1 [[.map m]]]) = some (vB (!zh7 D k),σ ++ [.cells 0 1 [[.map m]]]):=by
 rw [ze (fn:=ze8) rfl];have c:=zyh k D;have a:=zfL hm;have d:=zhl hm;have ok:=fun k => Ok.up f k;unfold zh7
 cases e : getM k D with
 | none =>
   rw [e] at c;simp -implicitDefEqProofs only [go_sem] at c;simp -implicitDefEqProofs only [go_sem,ze8,a,d,c,ok,Option.getD_none]
 | some b =>
   rw [e] at c;simp -implicitDefEqProofs only [go_sem,vBo] at c;simp -implicitDefEqProofs only [go_sem,ze8,a,d,c,ok,yO]
theorem zoM (σ : zd) (m : Nat) (D : zs8) (hm : σ[m]? = some (.mp (zh4 vBo D))) (b : Ok σ) (l : List Int) (c : l.length ≤ 4294967296) :
  call T 69 [.one (.map m),vIs l] σ = some (vB (l.all (zh7 D)),σ):=by
 rw [ze (fn:=zh0) rfl];have h:=zap l (fun k => !zh7 D k) 120 [] [.ptr σ.length 0 0 0] (σ ++ [Ob.cells 0 1 [[.map m]]]) c (fun x d => zsI x σ m D hm b);have ok:=fun k => Ok.up b k;have a:=Ok.at b;have hn:=zm0 (zh7 D) l;simp -implicitDefEqProofs only [go_sem] at h;simp -implicitDefEqProofs only [go_sem,zh0,h,ok,a,hn]
def vIv (k : Int) : V:=.one (.f (.lit (.int .i64 k)))
theorem zEH (k : Int) (D : zp2) : zhj k (zh4 vIv D) = (getM k D).map vIv:=zor vIv k D
theorem zyX (k : Int) (o : Int) (D : zp2) : zlV k (V.one (.f (.lit (.int .i64 o)))) (zh4 vIv D) = zh4 vIv (zjr k o D):=zoj vIv k o D
def zeE (n at' : Nat) (es : List (List C)) (l : List Int) (σ : zd) : zd :=
 (σ.set (1 + at') (.cells l.length 1 (l.map zl))).set (n + 1) (.cells 0 1 (es.set at' [.own (1 + at') l.length 0 l.length]))
theorem zsO (n at' : Nat) (hat : at' < n) (es : List (List C)) (l l' : List Int) (a : List C) (σ : zd) : zeE n at' (es.set at' a) l' (zeE n at' es l σ) = zeE n at' es l' σ:=by
 unfold zeE;rw [List.set_comm _ _ (show n + 1 ≠ 1 + at' by omega),ym,ym,ym]
structure RInv (n at' : Nat) (D : zp2) (es : List (List C)) (l : List Int) (σ : zd) : Prop where
 len : σ.length ≤ 1000000
 elen : es.length = n
 main : σ[n + 1]? = some (.cells 0 1 es)
 at0 : es[at']? = some [.own (1 + at') l.length 0 l.length]
 row : σ[1 + at']? = some (.cells l.length 1 (l.map zl))
 map : σ[n + 2]? = some (.mp (zh4 vIv D))
theorem RInv.step {n at' : Nat} {D : zp2} {es : List (List C)} {l : List Int} {σ : zd} (h : RInv n at' D es l σ) (hat : at' < n) (l' : List Int) :
  RInv n at' D (es.set at' [.own (1 + at') l'.length 0 l'.length]) l' (zeE n at' es l' σ):=by
 have a : n + 1 < σ.length:=(yg.1 h.main).1;have b : 1 + at' < σ.length:=(yg.1 h.row).1;unfold zeE;refine ⟨by simp only [yc]; exact h.len,by rw [yc]; exact h.elen,?_,?_,?_,?_⟩
 ·rw [yb (by simpa using a)]
 ·rw [yb (by rw [h.elen]; exact hat)]
 ·rw [ya (by omega),yb b]
 ·rw [ya (by omega),ya (by omega)]
  exact h.map
theorem RInv.same {n at' : Nat} {D : zp2} {es : List (List C)} {l : List Int} {σ : zd} (h : RInv n at' D es l σ) : zeE n at' es l σ = σ:=by
 unfold zeE;obtain ⟨c,he⟩:=yg.1 h.at0;have e1 : es.set at' [.own (1 + at') l.length 0 l.length] = es:=by rw [← he]; exact yv c
 rw [e1]
 have e2 : σ.set (1 + at') (.cells l.length 1 (l.map zl)) = σ:=by
  obtain ⟨b,a⟩:=yg.1 h.row;rw [← a]; exact yv b
 rw [e2];obtain ⟨b,a⟩:=yg.1 h.main;rw [← a]; exact yv b
section
variable (n at' : Nat) (hn : n ≤ 1000) (hat : at' < n) (D : zp2) (args : List Int) (hargs : args.length ≤ 4294967296) (v5 v7 v11 v12 v13 : V)
include hn hat hargs
theorem zzv : ∀ (d j : Nat) (l : List Int) (es : List (List C)) (σ : zd) (a0 a1 a2 a8 a9 c b i h a20 m : V),args.length - j = d → j ≤ args.length → l.length + d ≤ 1000000000 → RInv n at' D es l σ →
  exec T zf7 ⟨[a0,a1,a2,.one (.own (n + 1) 0 0 n),.one (.map (n + 2)),v5,vI at',v7,a8,a9,c,v11,v12,v13,b,vIs args,vI args.length,vI j,i,h,a20,m],σ,0,0⟩ =
   some (.exit 2,⟨[vU,vU,vU,.one (.own (n + 1) 0 0 n),.one (.map (n + 2)),v5,vI at',v7,vU,vU,vU,v11,v12,v13,vU,vU,vU,vU,vU,vU,vU,vU],zeE n at' es (l ++ zhy D (args.drop j)) σ,0,0⟩):=by
 intro d
 induction d with
 | zero =>
   intro j l es σ a0 a1 a2 a8 a9 c b i h a20 m h1 h2 h3 hI;have a : j = args.length:=(by omega);subst a;have hlen:=hI.len;have hd : (σ.length ≤ 1000000) = True:=eq_true hI.len;have e : args.drop args.length = []:=(by simp);rw [xl zf7 rfl,zhO,e,zhy,yG,hI.same];simp -implicitDefEqProofs only [go_sem,yJ,hd]
 | succ d ih =>
   intro j l es σ a0 a1 a2 a8 a9 c b i h a20 m h1 h2 h3 hI;have a : j < args.length:=(by omega);have A : args.drop j = args[j] :: args.drop (j + 1):=yp a;have hd : (σ.length ≤ 1000000) = True:=eq_true hI.len;have hm:=hI.map;have g:=hI.main;have q:=hI.row;have G:=hI.at0;have p:=zEH args[j] D;have B : ((at' : Int) < (n : Int)) = True:=(by simp; omega);have u : (at' + 1 ≤ n) = True:=(by simp; omega);have v : (at' < n) = True:=eq_true hat;have w : es.length = n:=hI.elen;rw [xl zf7 rfl,zhO,A]
   cases e : getM args[j] D with
   | none =>
     rw [e] at p;have:=ih (j + 1) l es σ vU vU vU vU vU vU vU vU vU vU vU (by omega) (by omega) (by omega) hI;rw [zhy,e];simp -implicitDefEqProofs only [go_sem] at p this;simp -implicitDefEqProofs only [go_sem,ilt a,zm a,ri,hm,p,hd,za a hargs,this]
   | some k =>
     rw [e] at p;have x:=hI.step hat (l ++ [k]);have:=ih (j + 1) (l ++ [k]) _ _ vU vU vU vU vU vU vU vU vU vU vU (by omega) (by omega) (by simp; omega) x;rw [zsO n at' hat,yM,List.cons_append,yH] at this;rw [zhy,e];have H : ∀ (τ : zd) o,(τ.set (1 + at') o)[n + 1]? = τ[n + 1]?:=fun τ o => ya (by omega);have r : (l.length + 1 ≤ LIM) = True:=eq_true (by unfold LIM; omega);have t : (0 < l.length + 1) = True:=eq_true (by omega);have y : (l.map zl).take l.length = l.map zl:=yu (by simp);have E : l.map zl ++ [[C.f (.lit (.int .i64 k))]] = (l ++ [k]).map zl:=(by simp [zl]);have s : (l ++ [k]).length = l.length + 1:=(by simp);have z : ∀ (X Y : Ob),(((σ.set (1 + at') X).set (n + 1) Y).length ≤ 1000000) = True:=fun X Y => eq_true (by simpa using hI.len);simp -implicitDefEqProofs only [go_sem,vIv] at p;simp -implicitDefEqProofs only [go_sem,zeE,← E,s] at this;simp -implicitDefEqProofs only [go_sem,zeE,ilt a,zm a,ri,hm,g,q,G,p,hd,z,B,u,v,w,H,r,t,y,← E,s,ye,yf,za a hargs];exact this
end
theorem zis (l : List Int) (n : Nat) (hn : l.length = n) (c : n ≤ 4294967296) (σ : zd) (id a : Nat) (b : σ[id]? = some (.cells a 1 (l.map zl))) :
  call T 118 [.one (.own id a 0 n)] σ = some (vIs (zn l),σ.set id (.cells (a + 1) 1 [])):=by
 rw [zks (g:=zfp) rfl];subst hn;simp [zfp,b,zhW,LIM,c,zdf,zkE,zku,vsl];exact fun _ _ => rfl
structure HG (n k : Nat) (D : zp2) (imp : List Int) (done : List (List Int)) (σ : zd) : Prop where
 len : σ.length ≤ n + 4 + k
 len2 : n + 4 ≤ σ.length
 dlen : done.length = k
 main : ∃ es,σ[n + 1]? = some (.cells 0 1 es) ∧ es.length = n ∧ (∀ i (h : i < done.length),es[i]? = some [.f (.sl (done[i].map ri))]) ∧ ∀ i,k ≤ i → i < n → es[i]? = some [.own (1 + i) 0 0 0]
 rows : ∀ i,k ≤ i → i < n → σ[1 + i]? = some (.cells 0 1 [])
 map : σ[n + 2]? = some (.mp (zh4 vIv D))
 tok : σ[n + 3]? = some (.tok 1 [imp.length])
theorem zpz (l : List Int) (n : Nat) (c : l.length = n) (d : n ≤ 4294967296) (σ : zd) (id a : Nat) (b : σ[id]? = some (.cells a 1 (l.map zl))) :
  call T 117 [.one (.own id a 0 n)] σ = some (.tup [],σ.set id (.cells a 1 ((zcc l).map zl))):=by
 rw [zks (g:=zlE) rfl];subst c;simp [zlE,b,zhW,LIM,d,zdf,zkE,zp1]
theorem zvS : ∀ l : List Int,zn4 1 (l.map ri) = true
 | [] => rfl
 | x :: l => by rw [yD,zn4,zvS l]; rfl
structure HF (n : Nat) (rows : List (List Int)) (σ : zd) : Prop where
 rlen : rows.length = n
 len2 : n + 4 ≤ σ.length
 main : ∃ es,σ[n + 1]? = some (.cells 0 1 es) ∧ es.length = n ∧ ∀ i (h : i < rows.length),es[i]? = some [.f (.sl (rows[i].map ri))]
theorem HG.step {n k : Nat} {D b : zp2} {imp imp' : List Int} {done : List (List Int)} {σ τ : zd} (h : HG n k D imp done σ) (m : k < n) {es : List (List C)} (he : σ[n + 1]? = some (.cells 0 1 es)) (row : List Int)
  (o : τ.length = σ.length + 1) (g : τ[n + 1]? = some (.cells 0 1 (es.set k [.f (.sl (row.map ri))]))) (d : ∀ i,k < i → i < n → τ[1 + i]? = σ[1 + i]?) (j : τ[n + 2]? = some (.mp (zh4 vIv b))) (l : τ[n + 3]? = some (.tok 1 [imp'.length])) :
  HG n (k + 1) b imp' (done ++ [row]) τ:=by
 obtain ⟨es',e0,e1,e2,e3⟩:=h.main;rw [he] at e0;simp only [Option.some.injEq,Ob.cells.injEq] at e0;obtain ⟨_,_,rfl⟩:=e0;have hd:=h.dlen;refine ⟨by have:=h.len; omega,by have:=h.len2; omega,by simp [hd],⟨_,g,by rw [yc]; exact e1,fun i e => ?_,fun i i1 i2 => ?_⟩,fun i i1 i2 => ?_,j,l⟩
 ·by_cases c : i = k
  ·subst c
   rw [yb (by omega),List.getElem_append_right (by omega)];simp [hd]
  ·have a : i < done.length:=by simp at e; omega
   rw [ya (by omega),List.getElem_append_left a];exact e2 i a
 ·rw [ya (by omega)]
  exact e3 i (by omega) i2
 ·rw [d i (by omega) i2]
  exact h.rows i (by omega) i2
section
variable (b : PBlock) (hb : okB b) (hs : ∀ o ∈ b.ops,o.args.length ≤ 64) (n : Nat) (hn : n = b.ops.length) (hn2 : n ≤ 1000)
include hb hs hn hn2
set_option maxHeartbeats 4000000 in
theorem zzI : ∀ (d k : Nat) (D : zp2) (imp : List Int) (done : List (List Int)) (σ : zd) (a0 a1 a2 a6 a7 a8 a9 aA Z aK aI aL Y aB a20 U : V),n - k = d → k ≤ n → imp.length ≤ k → HG n k D imp done σ →
  ∃ σ',HF n (done ++ zdo k D imp (b.ops.drop k)) σ' ∧
  exec T zf6 ⟨[a0,a1,a2,.one (.own (n + 1) 0 0 n),.one (.map (n + 2)),.one (.ap (n + 3) 0 (imp.map ri)),a6,a7,a8,a9,aA,vL (b.ops.map ro),vI n,vI k,Z,aK,aI,aL,Y,aB,a20,U],σ,0,0⟩ =
   some (.exit 0,⟨[vU,vU,vU,.one (.own (n + 1) 0 0 n),vU,vU,vU,vU,vU,vU,vU,vU,vU,vU,vU,vU,vU,vU,vU,vU,vU,vU],σ',0,0⟩):=by
 intro d
 induction d with
 | zero =>
   intro k D imp done σ a0 a1 a2 a6 a7 a8 a9 aA Z aK aI aL Y aB a20 U h1 h2 hi hI;have q : k = n:=(by omega);subst q;have aM:=hI.len;have hd : (σ.length ≤ 1000000) = True:=(by simp; omega);have e : b.ops.drop k = []:=List.drop_eq_nil_of_le (by omega);refine ⟨σ,?_,?_⟩
   ·rw [e,zdo,yG]
    obtain ⟨es,e0,e1,e2,_⟩:=hI.main;exact ⟨hI.dlen,hI.len2,es,e0,e1,e2⟩
   ·rw [xl zf6 rfl,zhQ]
    simp -implicitDefEqProofs only [go_sem,yJ,hd]
 | succ d ih =>
   intro k D imp done σ a0 a1 a2 a6 a7 a8 a9 aA Z aK aI aL Y aB a20 U h1 h2 hi hI;have q : k < b.ops.length:=(by omega);have m : k < n:=(by omega);have aW : b.ops.drop k = b.ops[k] :: b.ops.drop (k + 1):=yp q;obtain ⟨es,t,aJ,aY,aU⟩:=hI.main;have aH:=hI.map;have aP:=hI.tok;have hr:=hI.rows k (yR _) m;have hlen:=hI.len2;have aM:=hI.len;have ha:=hs _ (yN q);have hR : RInv n k D es [] (σ ++ [.cells 0 6 [cOp b.ops[k]]]):=⟨by simp; omega,aJ,zfL t _,aU k (yR _) m,zfL hr _,zfL aH _⟩;have x:=fun a0 a1 a2 a8 a9 aA Z Y aB a20 U => zzv n k (by omega) m D b.ops[k].args (by omega) (.one (.ap (n + 3) 0 (imp.map ri))) (.one (.ptr σ.length 0 0 0)) (vL (b.ops.map ro)) (vI n) (vI k) b.ops[k].args.length 0 [] es _ a0 a1 a2 a8 a9 aA Z Y aB a20 U (by omega) (by omega) (by simp; omega) hR;rw [yP,yH] at x;obtain ⟨l,hl⟩ : ∃ l,l = zhy D b.ops[k].args:=⟨_,rfl⟩;rw [← hl] at x;have aX : l.length ≤ 64:=(by rw [hl]; exact Nat.le_trans (zl3 D _) ha);have a : (zeE n k es l (σ ++ [.cells 0 6 [cOp b.ops[k]]])).length = σ.length + 1:=by simp [zeE]
   have t1 : (zeE n k es l (σ ++ [.cells 0 6 [cOp b.ops[k]]]))[n + 1]? = some (.cells 0 1 (es.set k [.own (1 + k) l.length 0 l.length])):=by
    unfold zeE; rw [yb (by simp; omega)]
   have t2 : (zeE n k es l (σ ++ [.cells 0 6 [cOp b.ops[k]]]))[1 + k]? = some (.cells l.length 1 (l.map zl)):=by
    unfold zeE; rw [ya (by omega),yb (by simp; omega)]
   have t0 : ∀ j,j ≠ n + 1 → j ≠ 1 + k → (zeE n k es l (σ ++ [.cells 0 6 [cOp b.ops[k]]]))[j]? = (σ ++ [.cells 0 6 [cOp b.ops[k]]])[j]?:=fun j j1 j2 => by
    unfold zeE; rw [ya (fun h => j1 h.symm),ya (fun h => j2 h.symm)]
   have t3:=(t0 (n + 2) (by omega) (by omega)).trans (zfL aH _);have t4:=(t0 (n + 3) (by omega) (by omega)).trans (zfL aP _);have t5 : (zeE n k es l (σ ++ [.cells 0 6 [cOp b.ops[k]]]))[σ.length]? = some (.cells 0 6 [cOp b.ops[k]]):=by rw [t0 _ (by omega) (by omega)]; simp
   have t6 : ∀ i,k < i → i < n → (zeE n k es l (σ ++ [.cells 0 6 [cOp b.ops[k]]]))[1 + i]? = σ[1 + i]?:=fun i i1 i2 => by
    rw [t0 _ (by omega) (by omega),yA (by omega)]
   clear t0;generalize zeE n k es l (σ ++ [.cells 0 6 [cOp b.ops[k]]]) = τ at *;have u:=zkZ b.ops[k].kind;have P : ((k : Int) < (n : Int)) = True:=(by simp; omega);have R : (k < n) = True:=eq_true m;have y : (k + 1 ≤ n) = True:=(by simp; omega);have B : (σ.length + 1 ≤ 1000000) = True:=(by simp; omega);have s : (es.set k [.own (1 + k) l.length 0 l.length])[k]? = some [C.own (1 + k) l.length 0 l.length]:=yb (by omega);have p : (es.set k [.own (1 + k) l.length 0 l.length]).length = n:=(by rw [yc]; exact aJ);have A : ∀ (ρ : zd) o,(ρ.set (1 + k) o)[n + 1]? = ρ[n + 1]?:=fun ρ o => ya (by omega);have z : ∀ (ρ : zd) o,(ρ.set (1 + k) o)[n + 2]? = ρ[n + 2]?:=fun ρ o => ya (by omega);have I : ∀ (ρ : zd) o,(ρ.set (1 + k) o)[n + 3]? = ρ[n + 3]?:=fun ρ o => ya (by omega);have J : ∀ (ρ : zd) o,(ρ.set (1 + k) o)[σ.length]? = ρ[σ.length]?:=fun ρ o => ya (by omega);have M : ∀ (ρ : zd) o,(ρ.set (n + 1) o)[1 + k]? = ρ[1 + k]?:=fun ρ o => ya (by omega);have H : ∀ (ρ : zd) o,(ρ.set (n + 1) o)[n + 2]? = ρ[n + 2]?:=fun ρ o => ya (by omega);have L : ∀ (ρ : zd) o,(ρ.set (n + 1) o)[n + 3]? = ρ[n + 3]?:=fun ρ o => ya (by omega);have O : ∀ (ρ : zd) o,(ρ.set (n + 1) o)[σ.length]? = ρ[σ.length]?:=fun ρ o => ya (by omega);have S : ∀ (ρ : zd) o,(ρ.set (n + 2) o)[1 + k]? = ρ[1 + k]?:=fun ρ o => ya (by omega);have u32 : ∀ (ρ : zd) o,(ρ.set (n + 2) o)[n + 1]? = ρ[n + 1]?:=fun ρ o => ya (by omega);have G : ∀ (ρ : zd) o,(ρ.set (n + 2) o)[n + 3]? = ρ[n + 3]?:=fun ρ o => ya (by omega);have K : ∀ (ρ : zd) o,(ρ.set (n + 3) o)[1 + k]? = ρ[1 + k]?:=fun ρ o => ya (by omega);have Q : ∀ (ρ : zd) o,(ρ.set (n + 3) o)[n + 1]? = ρ[n + 1]?:=fun ρ o => ya (by omega);have N : ∀ (ρ : zd) o,(ρ.set (n + 3) o)[n + 2]? = ρ[n + 2]?:=fun ρ o => ya (by omega);have E : ∀ (ρ : zd) o,(ρ.set (n + 3) o)[σ.length]? = ρ[σ.length]?:=fun ρ o => ya (by omega);have us : ∀ (ρ : zd) o j,(j < ρ.length) → (ρ.set j o)[j]? = some o:=fun ρ o j h => by simp [h]
   have l1 : (1 + k < σ.length + 1) = True:=(by simp; omega);have l2 : (n + 1 < σ.length + 1) = True:=(by simp; omega);have l3 : (n + 2 < σ.length + 1) = True:=(by simp; omega);have l4 : (n + 3 < σ.length + 1) = True:=(by simp; omega);have hw:=za q hb.ops;have fin:=fun (D' : zp2) (imp' row : List Int) (τ' : zd) (hi' : imp'.length ≤ k + 1) (h : HG n (k + 1) D' imp' (done ++ [row]) τ') => ih (k + 1) D' imp' (done ++ [row]) τ' vU vU vU vU vU vU vU vU vU vU vU vU vU vU vU vU (by omega) (by omega) hi' h;have aV : ∀ X,done ++ X :: zdo (k + 1) (zd9 D k b.ops[k]) (zjb imp k b.ops[k]) (b.ops.drop (k + 1)) = done ++ [X] ++ zdo (k + 1) (zd9 D k b.ops[k]) (zjb imp k b.ops[k]) (b.ops.drop (k + 1)):=fun X => by rw [yM]; rfl
   rw [aW,zdo,aV,xl zf6 rfl,zhQ]
   cases e1 : pure b.ops[k].kind with
   | true =>
     rw [e1] at u;have er : zlo D imp b.ops[k] = zn (zcc l):=(by unfold zlo; rw [if_pos e1,yG,hl]);have ei : zjb imp k b.ops[k] = imp:=(by unfold zjb; rw [if_pos e1]);have g:=s;have w:=fun ρ h => zpz l l.length rfl (by omega) ρ (1 + k) l.length h;have v:=fun ρ h => zis (zcc l) l.length (by simp [zcc]) (by omega) ρ (1 + k) l.length h;rw [er,ei]
     by_cases e2 : 0 < b.ops[k].dst
     ·have ed : zd9 D k b.ops[k] = zjr b.ops[k].dst (k : Int) D:=by unfold zd9; rw [if_pos e2]
      have r:=zyX b.ops[k].dst (k : Int) D;rw [ed];have c:=fun (τ' : zd) => fin (zjr b.ops[k].dst (k : Int) D) (imp) (zn (zcc l)) τ' (by omega);simp -implicitDefEqProofs only [go_sem] at u x w v r c;simp -implicitDefEqProofs only [go_sem,P,R,ilt q,zm q,ro,u,x,e2,r,t1,t2,t3,t4,t5,A,z,I,J,M,H,L,O,S,u32,G,K,Q,N,E,us,l1,l2,l3,l4,a,s,g,p,y,B,w,v,ye,yf,hw,yc,yh,yq];refine c _ (hI.step m t _ ?_ ?_ ?_ ?_ ?_)
      ·first | exact a | (simp only [yc]; exact a)
      ·rw [yb (by first | omega | (simp only [yc]; omega))]
       try simp only [ym]
      ·intro i i1 i2
       have:=t6 i i1 i2
       repeat rw [ya (by omega)]
       exact this
      ·repeat rw [ya (by omega)]
       exact yb (by first | omega | (simp only [yc]; omega))
      ·repeat rw [ya (by omega)]
       exact t4
     ·have ed : zd9 D k b.ops[k] = D:=by unfold zd9; rw [if_neg e2]
      rw [ed];have c:=fun (τ' : zd) => fin (D) (imp) (zn (zcc l)) τ' (by omega);simp -implicitDefEqProofs only [go_sem] at u x w v c;simp -implicitDefEqProofs only [go_sem,P,R,ilt q,zm q,ro,u,x,e2,t1,t2,t3,t4,t5,A,z,I,J,M,H,L,O,S,u32,G,K,Q,N,E,us,l1,l2,l3,l4,a,s,g,p,y,B,w,v,ye,yf,hw,yc,yh,yq];refine c _ (hI.step m t _ ?_ ?_ ?_ ?_ ?_)
      ·first | exact a | (simp only [yc]; exact a)
      ·rw [yb (by first | omega | (simp only [yc]; omega))]
       try simp only [ym]
      ·intro i i1 i2
       have:=t6 i i1 i2
       repeat rw [ya (by omega)]
       exact this
      ·repeat rw [ya (by omega)]
       exact t3
      ·repeat rw [ya (by omega)]
       exact t4
   | false =>
     rw [e1] at u;have aN : ¬ pure b.ops[k].kind = true:=(by rw [e1]; simp);have er : zlo D imp b.ops[k] = zn (zcc (l ++ imp)):=(by unfold zlo; rw [if_neg aN,hl]);have ei : zjb imp k b.ops[k] = imp ++ [(k : Int)]:=(by unfold zjb; rw [if_neg aN]);have aO : zn4 1 (imp.map ri) = true:=zvS imp;have aC : (imp.length + 1 ≤ LIM) = True:=eq_true (by unfold LIM; omega);have himp : imp.map ri ++ [[Fz.lit (Value.int IntKind.i64 (k : Int))]] = (imp ++ [(k : Int)]).map ri:=(by simp [ri]);rw [er,ei]
     by_cases ez : l.length + imp.length = 0
     ·have z1 : l = []:=yw (by omega)
      have z2 : imp = []:=yw (by omega);subst z1 z2;have g : (es.set k [.own (1 + k) 0 0 0])[k]? = some [C.own (1 + k) 0 0 0]:=yb (by omega);have aG : ((es.set k [.own (1 + k) 0 0 0]).set k [.own (1 + k) 0 0 0])[k]? = some [C.own (1 + k) 0 0 0]:=yb (by rw [yc]; omega);have W : (es.set k [.own (1 + k) 0 0 0]).length = n:=(by rw [yc]; exact aJ);have aQ : (ri (k : Int)).length = 1:=rfl;have aD : (1 ≤ LIM) = True:=eq_true (by unfold LIM; omega);have aF : (0 + 1 ≤ LIM) = True:=eq_true (by unfold LIM; omega);have w:=fun ρ h => zpz [] 0 rfl (by omega) ρ (1 + k) 0 h;have v:=fun ρ h => zis (zcc []) 0 (by simp [zcc]) (by omega) ρ (1 + k) 0 h
      by_cases e2 : 0 < b.ops[k].dst
      ·have ed : zd9 D k b.ops[k] = zjr b.ops[k].dst (k : Int) D:=by unfold zd9; rw [if_pos e2]
       have r:=zyX b.ops[k].dst (k : Int) D;rw [ed];have c:=fun (τ' : zd) => fin (zjr b.ops[k].dst (k : Int) D) ([] ++ [(k : Int)]) (zn (zcc ([] ++ []))) τ' (by simp);simp -implicitDefEqProofs only [go_sem] at u x w v r c himp;simp -implicitDefEqProofs only [go_sem,P,R,ilt q,zm q,ro,u,x,aC,aD,aF,himp,aG,W,aQ,false_and,if_false,e2,r,t1,t2,t3,t4,t5,A,z,I,J,M,H,L,O,S,u32,G,K,Q,N,E,us,l1,l2,l3,l4,a,s,g,p,y,B,w,v,ye,yf,hw,yc,yh,yq];refine c _ (hI.step m t _ ?_ ?_ ?_ ?_ ?_)
       ·first | exact a | (simp only [yc]; exact a)
       ·rw [yb (by first | omega | (simp only [yc]; omega))]
        try simp only [ym]
       ·intro i i1 i2
        have:=t6 i i1 i2
        repeat rw [ya (by omega)]
        exact this
       ·repeat rw [ya (by omega)]
        exact yb (by first | omega | (simp only [yc]; omega))
       ·repeat rw [ya (by omega)]
        rw [yb (by first | omega | (simp only [yc]; omega))]
        try simp
      ·have ed : zd9 D k b.ops[k] = D:=by unfold zd9; rw [if_neg e2]
       rw [ed];have c:=fun (τ' : zd) => fin (D) ([] ++ [(k : Int)]) (zn (zcc ([] ++ []))) τ' (by simp);simp -implicitDefEqProofs only [go_sem] at u x w v c himp;simp -implicitDefEqProofs only [go_sem,P,R,ilt q,zm q,ro,u,x,aC,aD,aF,himp,aG,W,aQ,false_and,if_false,e2,t1,t2,t3,t4,t5,A,z,I,J,M,H,L,O,S,u32,G,K,Q,N,E,us,l1,l2,l3,l4,a,s,g,p,y,B,w,v,ye,yf,hw,yc,yh,yq];refine c _ (hI.step m t _ ?_ ?_ ?_ ?_ ?_)
       ·first | exact a | (simp only [yc]; exact a)
       ·rw [yb (by first | omega | (simp only [yc]; omega))]
        try simp only [ym]
       ·intro i i1 i2
        have:=t6 i i1 i2
        repeat rw [ya (by omega)]
        exact this
       ·repeat rw [ya (by omega)]
        exact t3
       ·repeat rw [ya (by omega)]
        rw [yb (by first | omega | (simp only [yc]; omega))]
        try simp
     ·have aE : (0 < l.length + imp.length) = True:=eq_true (by omega)
      have aR : (l.length + imp.length ≤ LIM) = True:=eq_true (by unfold LIM; omega);have aT : (l.map zl).take l.length = l.map zl:=yu (by simp);have aS : l.map zl ++ (imp.map ri).map (fun e => e.map C.f) = (l ++ imp).map zl:=(by simp [zl,ri,Function.comp_def]);have g : ((es.set k [.own (1 + k) l.length 0 l.length]).set k [.own (1 + k) (l.length + 1) 0 (l.length + imp.length)])[k]? = some [C.own (1 + k) (l.length + 1) 0 (l.length + imp.length)]:=yb (by rw [yc]; omega);have w:=fun ρ h => zpz (l ++ imp) (l.length + imp.length) (by simp) (by omega) ρ (1 + k) (l.length + 1) h;have v:=fun ρ h => zis (zcc (l ++ imp)) (l.length + imp.length) (by simp [zcc]) (by omega) ρ (1 + k) (l.length + 1) h
      by_cases e2 : 0 < b.ops[k].dst
      ·have ed : zd9 D k b.ops[k] = zjr b.ops[k].dst (k : Int) D:=by unfold zd9; rw [if_pos e2]
       have r:=zyX b.ops[k].dst (k : Int) D;rw [ed];have c:=fun (τ' : zd) => fin (zjr b.ops[k].dst (k : Int) D) (imp ++ [(k : Int)]) (zn (zcc (l ++ imp))) τ' (by simp; omega);simp -implicitDefEqProofs only [go_sem] at u x w v r c himp;simp -implicitDefEqProofs only [go_sem,P,R,ilt q,zm q,ro,u,x,aC,himp,aO,aE,aR,aT,aS,e2,r,t1,t2,t3,t4,t5,A,z,I,J,M,H,L,O,S,u32,G,K,Q,N,E,us,l1,l2,l3,l4,a,s,g,p,y,B,w,v,ye,yf,hw,yc,yh,yq];refine c _ (hI.step m t _ ?_ ?_ ?_ ?_ ?_)
       ·first | exact a | (simp only [yc]; exact a)
       ·rw [yb (by first | omega | (simp only [yc]; omega))]
        try simp only [ym]
       ·intro i i1 i2
        have:=t6 i i1 i2
        repeat rw [ya (by omega)]
        exact this
       ·repeat rw [ya (by omega)]
        exact yb (by first | omega | (simp only [yc]; omega))
       ·repeat rw [ya (by omega)]
        rw [yb (by first | omega | (simp only [yc]; omega))]
        try simp
      ·have ed : zd9 D k b.ops[k] = D:=by unfold zd9; rw [if_neg e2]
       rw [ed];have c:=fun (τ' : zd) => fin (D) (imp ++ [(k : Int)]) (zn (zcc (l ++ imp))) τ' (by simp; omega);simp -implicitDefEqProofs only [go_sem] at u x w v c himp;simp -implicitDefEqProofs only [go_sem,P,R,ilt q,zm q,ro,u,x,aC,himp,aO,aE,aR,aT,aS,e2,t1,t2,t3,t4,t5,A,z,I,J,M,H,L,O,S,u32,G,K,Q,N,E,us,l1,l2,l3,l4,a,s,g,p,y,B,w,v,ye,yf,hw,yc,yh,yq];refine c _ (hI.step m t _ ?_ ?_ ?_ ?_ ?_)
       ·first | exact a | (simp only [yc]; exact a)
       ·rw [yb (by first | omega | (simp only [yc]; omega))]
        try simp only [ym]
       ·intro i i1 i2
        have:=t6 i i1 i2
        repeat rw [ya (by omega)]
        exact this
       ·repeat rw [ya (by omega)]
        exact t3
       ·repeat rw [ya (by omega)]
        rw [yb (by first | omega | (simp only [yc]; omega))]
        try simp
end
theorem zvx : ∀ (rows : List (List Int)) (es : List (List C)),es.length = rows.length → (∀ i (h : i < rows.length),es[i]? = some [.f (.sl (rows[i].map ri))]) → zaf es = some (rows.map rl)
 | [],[],_,_ => rfl
 | [],_ :: _,h,_ => by simp at h
 | _ :: _,[],h,_ => by simp at h
 | l :: rows,e :: es,h,hi => by
   have a:=hi 0 (by simp);simp only [ys,Option.some.injEq,yB] at a;have b:=zvx rows es (by simpa using h) fun i c => by have:=hi (i + 1) (by simpa using c); simpa using this
   subst a;simp [zaf,b,zdR,ztr,zfF,rl]
section
variable (b : PBlock) (hb : okB b) (hs : ∀ o ∈ b.ops,o.args.length ≤ 64) (n : Nat) (hn : n = b.ops.length) (hn2 : n ≤ 1000)
include hb hs hn hn2
theorem zrk : call T 67 [znB b] [] = some (vLs (zg9 b),[]):=by
 rw [ze (fn:=ziW) rfl];have d : ((n : Int) ≤ (LIM : Int)) = True:=by simp; unfold LIM; omega
 have s : (b.ops.length : Int) = n:=by rw [hn]
 have a1 : 1 + n = n + 1:=yQ 1 n;have a2 : n + 1 + 1 = n + 2:=rfl;have a3 : n + 2 + 1 = n + 3:=rfl
 have w : HG n 0 [] [] [] (Ob.cells 0 5 [zh b] :: (List.replicate n (Ob.cells 0 1 []) ++ [Ob.cells 0 1 (yT (zqh 1 [C.f (Fz.sl [])] 0) (yS n)),Ob.mp [],Ob.tok 1 [0]])):=by
  refine ⟨by simp,by simp,rfl,⟨yT (zqh 1 [C.f (Fz.sl [])] 0) (yS n),?_,by simp,fun i a => by simp at a,fun i _ a => ?_⟩,fun i _ a => ?_,?_,?_⟩
  ·rw [yl,yn (by simp)]
   simp
  ·simp [a,zqh]
  ·rw [yQ,yl,yA (by rw [yE]; exact a),List.getElem?_replicate,if_pos a]
  ·rw [yl,yn (by simp)]
   simp [zh4]
  ·rw [yl,yn (by simp)]
   simp
 have he:=fun a0 a1 a2 a6 a7 a8 a9 k g m j p q o a20 r => zzI b hb hs n hn hn2 n 0 [] [] [] _ a0 a1 a2 a6 a7 a8 a9 k g m j p q o a20 r (by omega) (by omega) (by simp) w;simp only [Int.natCast_zero] at he;obtain ⟨σ',c,h⟩:=he (znB b) (.one (.ptr 0 0 0 0)) (vL []) vU vU vU vU vU vU vU vU vU vU vU vU vU;rw [yH,yP] at c;have eS : zdo 0 [] [] b.ops = zg9 b:=rfl;rw [eS] at c;obtain ⟨es,t,z,l⟩:=c.main;have y:=c.rlen;have v:=zvx (zg9 b) es (by omega) l;have x : es.take n = es:=yu (by omega);have hd : es.drop 0 = es:=rfl;have u:=c.len2;have e : (σ'.length ≤ 0) = False:=eq_false (by omega);simp -implicitDefEqProofs only [go_sem] at h;simp -implicitDefEqProofs only [go_sem,ziW,s,d,ye,yf,yh,yE,List.length_cons,List.length_nil,a1,a2,a3,h,t,v,x,hd,e]
end
def zme (D : zs8) (done : List Int) : Prop:=∀ x,zh7 D x = decide (x ∈ done)
theorem zme.nil : zme [] []:=fun x => by simp [zh7,getM]
theorem zme.put {D : zs8} {done : List Int} (h : zme D done) (x : Int) : zme (zjr x true D) (done ++ [x]):=fun y => by
 have a:=h y;unfold zh7 at a ⊢;rw [zuX]
 by_cases c : x = y
 ·rw [if_pos c]; simp [c]
 ·rw [if_neg c,a]
  have : (y ∈ done ++ [x]) ↔ y ∈ done:=by simp; exact fun e => absurd e.symm c
  rw [Bool.eq_iff_iff,decide_eq_true_eq,decide_eq_true_eq,this]
theorem zme.all {D : zs8} {done : List Int} (h : zme D done) (l : List Int) : l.all (zh7 D) = l.all fun y => decide (y ∈ done):=by
 congr 1
 exact funext h
section
variable (b : PBlock) (n : Nat) (hn : n = b.ops.length) (hn2 : n ≤ 1000) (on : List (List Int)) (hon : on.length = n) (hol : ∀ l ∈ on,l.length ≤ 4294967296) (order : List Int) (ho : order.length = n)
include hn hn2 hon hol ho
theorem zAw : ∀ (d k : Nat) (D : zs8) (done : List Int),n - k = d → k ≤ n → zme D done → ∃ D' : zs8,∀ (a0 a1 a3 a6 a7 g h : V),
  exec T zbm ⟨[a0,a1,.one (.ptr 0 0 0 0),a3,.one (.map 1),vLs on,a6,a7,vIs order,vI n,vI k,g,h],[.cells 0 5 [zh b],.mp (zh4 vBo D)],0,0⟩ =
   some (if zf1 on n done (order.drop k) = true then (.exit 0,⟨[vU,vU,vU,vU,vU,vU,vU,vU,vU,vU,vU,vU,vU],[.cells 0 5 [zh b],.mp (zh4 vBo D')],0,0⟩) else (.ret,⟨[vU,vU,vU,vB false,vU,vU,vU,vU,vU,vU,vU,vU,vU],[.cells 0 5 [zh b],.mp (zh4 vBo D')],0,0⟩)):=by
 intro d
 induction d with
 | zero =>
   intro k D done z x q;have l : k = n:=(by omega);subst l;refine ⟨D,fun a0 a1 a3 a6 a7 g h => ?_⟩;have e : order.drop k = []:=(by simp [ho]);rw [xl zbm rfl,zcB,e,zf1,if_pos rfl];simp -implicitDefEqProofs only [go_sem,yJ,zgT]
 | succ d ih =>
   intro k D done z x q;have l : k < order.length:=(by omega);have s : order.drop k = order[k] :: order.drop (k + 1):=yp l;have i : ((k : Int) < (n : Int)) = True:=(by simp; omega);have j : (b.ops.length : Int) = n:=(by rw [hn]);rw [s,zf1]
   by_cases c1 : order[k] < 0
   ·refine ⟨D,fun a0 a1 a3 a6 a7 g h => ?_⟩
    have f : ¬ 0 ≤ order[k]:=(by omega);rw [decide_eq_false f,yo,yo,if_neg (by simp),xl zbm rfl,zcB];simp -implicitDefEqProofs only [go_sem,i,c1,zm l,ri,zgT]
   have f : 0 ≤ order[k]:=by omega
   by_cases c2 : (n : Int) ≤ order[k]
   ·refine ⟨D,fun a0 a1 a3 a6 a7 g h => ?_⟩
    have o : ¬ order[k] < (n : Int):=(by omega);rw [decide_eq_false o,yo,Bool.and_false,yo,if_neg (by simp),xl zbm rfl,zcB];simp -implicitDefEqProofs only [go_sem,i,c1,c2,j,zm l,ri,zgT]
   have o : order[k] < (n : Int):=(by omega);have p:=zyh order[k] D;have hw:=q order[k];rw [decide_eq_true f,decide_eq_true o,yF,yF]
   by_cases c3 : order[k] ∈ done
   ·refine ⟨D,fun a0 a1 a3 a6 a7 g h => ?_⟩
    rw [decide_eq_true c3] at hw ⊢
    have r : getM order[k] D = some true:=by
     unfold zh7 at hw
     cases e : getM order[k] D with
     | none => rw [e] at hw; cases hw
     | some v => rw [e] at hw; exact congrArg some hw
    rw [r] at p;rw [show (!true) = false from rfl,yo,yo,if_neg (by simp),xl zbm rfl,zcB];simp -implicitDefEqProofs only [go_sem,vBo] at p;simp -implicitDefEqProofs only [go_sem,i,c1,c2,j,zm l,ri,p,zgT]
   rw [decide_eq_false c3] at hw ⊢
   have a : zhj order[k] (zh4 vBo D) = none ∨ zhj order[k] (zh4 vBo D) = some (vBo false):=by
    rw [p];unfold zh7 at hw
    cases e : getM order[k] D with
    | none => exact .inl rfl
    | some v => rw [e] at hw; right; simp only [yO] at hw; rw [hw]; rfl
   have c : on[order[k].toNat]? = some (on.getD order[k].toNat []):=(by rw [yy,yr (by omega)]; rfl);have u : (on.getD order[k].toNat []).length ≤ 4294967296:=hol _ (List.mem_of_getElem? c);have m:=zoM [.cells 0 5 [zh b],.mp (zh4 vBo D)] 1 D rfl (by unfold Ok; simp -implicitDefEqProofs only [go_sem,zgT]) (on.getD order[k].toNat []) u;rw [q.all] at m;rw [show (!false) = true from rfl,yF]
   cases c4 : ((on.getD order[k].toNat []).all fun y => decide (y ∈ done)) with
   | false =>
     refine ⟨D,fun a0 a1 a3 a6 a7 g h => ?_⟩;rw [c4] at m;rw [yo,if_neg (by simp),xl zbm rfl,zcB];simp -implicitDefEqProofs only [go_sem] at m;rcases a with a | a
     ·simp -implicitDefEqProofs only [go_sem,i,c1,f,c2,j,zm l,ri,rl,yx,c,a,m,zgT]
     ·simp -implicitDefEqProofs only [go_sem,vBo] at a
      simp -implicitDefEqProofs only [go_sem,i,c1,f,c2,j,zm l,ri,rl,yx,c,a,m,zgT]
   | true =>
     rw [c4] at m;rw [yF];obtain ⟨D',t⟩:=ih (k + 1) (zjr order[k] true D) (done ++ [order[k]]) (by omega) (by omega) (q.put _);refine ⟨D',fun a0 a1 a3 a6 a7 g h => ?_⟩;have w:=zCM order[k] true D;have:=t vU vU vU vU vU vU vU;rw [xl zbm rfl,zcB];simp -implicitDefEqProofs only [go_sem] at m this;rcases a with a | a
     ·simp -implicitDefEqProofs only [go_sem,i,c1,f,c2,j,zm l,ri,rl,yx,c,a,w,m,zgT,za l (show order.length ≤ 4294967296 by omega),this]
     ·simp -implicitDefEqProofs only [go_sem,vBo] at a
      simp -implicitDefEqProofs only [go_sem,i,c1,f,c2,j,zm l,ri,rl,yx,c,a,w,m,zgT,za l (show order.length ≤ 4294967296 by omega),this]
end
end AC
