/- A part of the proof of SchedTells. Conditions: none. -/
import Derived.Test.YtmkncmffaaninaaGreatTBI
import Derived.Test.YtmkncmffaaninaaGreatTAX
set_option linter.all false
open List renaming getElem?_set_ne → ya,getElem?_set_self → yb,length_set → yc,getElem?_eq_some_iff → yg,length_append → yh,all_eq_true → yi,sublist_append_right → yj,mem_cons_of_mem → yk,getElem?_cons_succ → yl,set_set → ym,getElem?_append_right → yn,drop_eq_getElem_cons → yp,length_map → yq,getElem?_eq_getElem → yr,getElem?_cons_zero → ys,mem_cons_self → yt,take_of_length_le → yu,set_getElem_self → yv,eq_nil_of_length_eq_zero → yw,getElem?_map → yx,getD_eq_getElem?_getD → yy,nodup_cons → yz,getElem?_append_left → yA,getElem_cons_zero → yB,getElem_cons_succ → yC,map_cons → yD,length_replicate → yE,append_nil → yG,nil_append → yH,mem_map → yI,mem_cons → yK,append_assoc → yM,getElem_mem → yN,drop_zero → yP,range → yS,map → yT
open Bool renaming and_eq_true → yd,false_and → yo,true_and → yF,not_eq_true' → yL
open Int renaming natCast_nonneg → ye,toNat_natCast → yf,lt_irrefl → yJ
open Option renaming getD_some → yO
open Nat renaming add_comm → yQ,le_refl → yR
namespace AC
open Go Go.A
def zBB (tree : List Int) (d u : Use) : Prop:=d.block < 0 ∨ (d.block = u.block ∧ d.at' < u.at') ∨ (d.block ≠ u.block ∧ znk tree d.block u.block = d.block)
structure RightP (f : PFunc) (level : Int) : Prop where
 lvl : 0 ≤ level ∧ level ≤ 2
 may : zmQ f = true
 shape : zg2 f = true
 typed : zgc f level = true
 values : ∀ d ∈ zN f,value d.v = true
 once : ((zN f).map Use.v).Nodup
 uses : ∀ u ∈ zfg f,∃ d ∈ zN f,d.v = u.v ∧ d.shape = u.shape ∧ zBB (zfA (zq f) 0) d u
theorem zqy : ∀ (l pre : List Use),zg4 pre l = true ↔ (∀ u ∈ l,value u.v = true) ∧ (l.map Use.v).Nodup ∧ ∀ u ∈ l,∀ x ∈ pre,x.v ≠ u.v
 | [],pre => by simp [zg4]
 | u :: r,pre => by
   rw [zg4,yd,yd,zqy r (pre ++ [u]),zow,yD,yz];constructor
   ·rintro ⟨⟨c,f⟩,g,d,h⟩
    refine ⟨fun x a => ?_,⟨fun hm => ?_,d⟩,fun x a y b => ?_⟩
    ·rcases yK.1 a with rfl | a
     ·exact c
     ·exact g x a
    ·obtain ⟨x,a,e⟩:=yI.1 hm
     exact h x a u (by simp) e.symm
    ·rcases yK.1 a with rfl | a
     ·exact f y b
     ·exact h x a y (by simp [b])
   ·rintro ⟨c,⟨f,g⟩,d⟩
    refine ⟨⟨c u yt,d u yt⟩,fun x a => c x (yk _ a),g,fun x a y b => ?_⟩;rcases List.mem_append.1 b with b | b
    ·exact d x (yk _ a) y b
    ·rw [List.mem_singleton.1 b]
     exact fun e => f (yI.2 ⟨x,a,e.symm⟩)
theorem zlw : ∀ {defs : List Use},(defs.map Use.v).Nodup → ∀ {d : Use},d ∈ defs → defs.find? (fun u => decide (u.v = d.v)) = some d
 | [],_,_,hd => by simp at hd
 | x :: r,hn,d,hd => by
   rw [yD,yz] at hn;rw [List.find?_cons];rcases yK.1 hd with rfl | hd
   ·simp
   ·rw [decide_eq_false (fun e => hn.1 (yI.2 ⟨d,hd,e.symm⟩))]
    exact zlw hn.2 hd
theorem zjg {defs : List Use} (b : (defs.map Use.v).Nodup) {d : Use} (hd : d ∈ defs) : ¬ zl d.v 0 defs < 0 ∧ ziM defs d.v = d:=by
 obtain ⟨f,e⟩:=zll defs d.v 0;have a:=zlw b hd
 have g : ¬ zl d.v 0 defs < 0:=fun c => by
  have:=zow.1 (f.1 c) d hd;exact this rfl
 refine ⟨g,?_⟩;have:=e (by omega);rw [show zl d.v 0 defs - ((0 : Nat) : Int) = zl d.v 0 defs by omega,a] at this;unfold ziM;rw [yy,this];rfl
theorem zzx {defs : List Use} {v : Int} (h : ¬ zl v 0 defs < 0) : ∃ d ∈ defs,d.v = v:=by
 obtain ⟨b,_⟩:=zll defs v 0;refine Classical.byContradiction fun a => h (b.2 (zow.2 fun u hu e => a ⟨u,hu,e⟩))
theorem zqa {defs : List Use} (a : (defs.map Use.v).Nodup) {d : Use} (hd : d ∈ defs) (tree : List Int) (u : Use) (e : d.v = u.v) : zhd defs tree u = true ↔ zBB tree d u:=by
 unfold zhd zBB;rw [← e,(zjg a hd).2];simp only [Bool.or_eq_true,yd,decide_eq_true_eq,yL,Bool.or_eq_false_iff,decide_eq_false_iff_not,Bool.not_eq_false',or_assoc]
theorem zua {f : PFunc} {level : Int} : zac f level = 0 ↔ RightP f level:=by
 unfold zac;constructor
 ·intro h
  split at h
  ·omega
  rename_i c1;split at h
  ·omega
  rename_i c2;split at h
  ·omega
  rename_i c3;split at h
  ·omega
  rename_i c4;split at h
  ·omega
  rename_i c5;split at h
  ·omega
  rename_i c6;split at h
  ·omega
  rename_i c7;split at h
  ·omega
  rename_i c8;simp only [Bool.not_eq_false] at c2 c3 c4 c5 c6 c7 c8;have b:=(ztE (zN f) (zN f) [] rfl).symm.trans c5;obtain ⟨v1,v2,_⟩:=(zqy _ _).1 b;refine ⟨by omega,c2,c3,c4,v1,v2,fun u hu => ?_⟩;have c:=yi.1 c6 u hu;have a:=yi.1 c7 u hu;have i:=yi.1 c8 u hu;unfold zk8 at c;simp only [yL,decide_eq_false_iff_not] at c;obtain ⟨d,hd,e⟩:=zzx c;refine ⟨d,hd,e,?_,(zqa v2 hd _ u e).1 i⟩;unfold sameShape at a;rw [← e,(zjg v2 hd).2] at a;simpa using a
 ·intro h
  have b : zgm (zN f) 0 (zN f) = true:=(ztE (zN f) (zN f) [] rfl).trans ((zqy _ _).2 ⟨h.values,h.once,fun _ _ _ j => by simp at j⟩)
  have a6 : (zfg f).all (zk8 (zN f)) = true:=yi.2 fun u hu => by
   obtain ⟨d,hd,e,_⟩:=h.uses u hu;unfold zk8;rw [← e];simpa using (zjg h.once hd).1
  have a7 : (zfg f).all (sameShape (zN f)) = true:=yi.2 fun u hu => by
   obtain ⟨d,hd,e,es,_⟩:=h.uses u hu;unfold sameShape;rw [← e,(zjg h.once hd).2,decide_eq_true_eq];exact es
  have a8 : (zfg f).all (zhd (zN f) (zfA (zq f) 0)) = true:=yi.2 fun u hu => by
   obtain ⟨d,hd,e,_,g⟩:=h.uses u hu;exact (zqa h.once hd _ u e).2 g
  have k:=h.lvl;rw [if_neg (by omega),if_neg (by simp [h.may]),if_neg (by simp [h.shape]),if_neg (by simp [h.typed]),if_neg (by simp [b]),if_neg (by simp [a6]),if_neg (by simp [a7]),if_neg (by simp [a8])]
theorem zn2 {f : PFunc} {level : Int} (h : zgc f level = true) {b : PBlock} (c : b ∈ f.blocks) {o : POp} (a : o ∈ b.ops) : zgN o = true:=by
 unfold zgc at h;simp only [yd,yi] at h;have:=h.2.2 b c;unfold zk2 at this;simp only [yd,yi] at this;have:=this.2 o a;unfold ofS at this;simp only [yd] at this;exact this.2.2
theorem zqk {o : POp} (h : zgN o = true) (hd : 0 < o.dst) : 0 < (zT o).1:=by
 unfold zT;unfold zgN at h;simp only [yd] at h;have hm : zgN o = true:=by unfold zgN; simp only [yd]; exact h
 cases c : zgg o.kind
 ·rw [if_neg (by simp [hm])]
  split
  ·decide
  ·have a:=h.1
   unfold zdQ at a
   have b : 0 < o.bits:=by
    simp only [yd] at a;have:=zdg a.1;omega
   split <;> exact b
 ·rw [c] at h
  simp at h;omega
theorem zsB : ∀ (l : List PBlock) (k j : Nat) (b : PBlock),l[j]? = some b → (zby ((k + j : Nat) : Int) 0 b.ops).Sublist (zL k l)
 | [],_,_,_,h => by simp at h
 | c :: l,k,j,b,h => by
   rw [zL]
   cases j with
   | zero =>
     simp only [ys,Option.some.injEq] at h;subst h;rw [Nat.add_zero];exact (List.sublist_append_left _ _).trans (yj _ _)
   | succ j =>
     have:=zsB l (k + 1) j b (by simpa using h);rw [show k + 1 + j = k + (j + 1) by omega] at this;exact this.trans ((yj _ _).trans (yj _ _))
theorem zrL (i : Int) : ∀ (l : List POp) (k j : Nat) (o : POp),l[j]? = some o → 0 < (zT o).1 → ⟨o.dst,zT o,i,((k + j : Nat) : Int)⟩ ∈ zby i k l
 | [],_,_,_,h,_ => by simp at h
 | x :: l,k,j,o,h,hg => by
   rw [zby]
   cases j with
   | zero =>
     simp only [ys,Option.some.injEq] at h;subst h;rw [if_pos hg];exact yt
   | succ j =>
     have:=zrL i l (k + 1) j o (by simpa using h) hg;rw [show k + 1 + j = k + (j + 1) by omega] at this;split
     ·exact yk _ this
     ·exact this
theorem zn5 (i : Int) : ∀ (l : List POp) (k : Nat),((zby i k l).map Use.v).Nodup → (∀ o ∈ l,zgN o = true) → ∀ a b (d : a < l.length) (g : b < l.length),a < b → 0 < l[a].dst → l[a].dst ≠ l[b].dst
 | [],_,_,_,a,_,d,_,_,_ => by simp at d
 | o :: l,k,hn,hm,a,b,d,g,hab,hd => by
   cases b with
   | zero => omega
   | succ b =>
     have c : b < l.length:=(by simpa using g);have f : zgN l[b] = true:=hm _ (yk _ (yN c))
     cases a with
     | zero =>
       simp only [yB,yC] at hd ⊢;intro e;rw [zby,if_pos (zqk (hm o yt) hd),yD,yz] at hn;refine hn.1 (yI.2 ⟨_,zrL i l (k + 1) b l[b] (yr c) (zqk f (by omega)),?_⟩);exact e.symm
     | succ a =>
       simp only [yC] at hd ⊢;refine zn5 i l (k + 1) ?_ (fun o h => hm o (yk _ h)) a b (by simpa using d) c (by omega) hd;rw [zby] at hn;split at hn
       ·exact (yz.1 hn).2
       ·exact hn
theorem zAL {o : POp} (h : zgN o = true) : 0 ≤ o.dst:=by
 unfold zgN at h;simp only [yd] at h;have:=h.2.2.1;split at this
 ·simp at this; omega
 ·have:=znn.1 this; omega
theorem RightP.oneDef {f : PFunc} {level : Int} (h : RightP f level) {b : PBlock} (l : b ∈ f.blocks) : OneDef b.ops:=by
 have hm : ∀ o ∈ b.ops,zgN o = true:=fun o g => zn2 h.typed l g;obtain ⟨j,n,e⟩:=List.mem_iff_getElem.1 l;have p:=zsB f.blocks 0 j b (by rw [yr n,e])
 have m : ((zby ((0 + j : Nat) : Int) 0 b.ops).map Use.v).Nodup:=by
  refine List.Nodup.sublist ?_ h.once;refine List.Sublist.map _ (p.trans ?_);unfold zN;exact yj _ _
 refine ⟨fun o g => zAL (hm o g),fun a c k i hd he => ?_⟩;rcases Nat.lt_trichotomy a c with d | d | d
 ·exact absurd he (zn5 _ _ _ m hm a c k i d hd)
 ·exact d
 ·exact absurd he.symm (zn5 _ _ _ m hm c a i k d (by omega))
theorem RightP.size {f : PFunc} {level : Int} (h : RightP f level) {b : PBlock} (c : b ∈ f.blocks) : b.ops.length ≤ 1000 ∧ ∀ o ∈ b.ops,o.args.length ≤ 64:=by
 have a:=zi4 h.may;refine ⟨zqg a.2.2.2.1 b c,?_⟩;exact (zrD (a.2.2.2.2 b c)).2
end AC
namespace AC
open Go Go.A Go.A.Lex
def zaY (f : PFunc) (k : Int) : Bool:=decide (0 ≤ k) && (decide (k < f.blocks.length) && decide (zac f 2 = 0))
theorem zfO (f : PFunc) (b : okF f) (k : Int) : call T 64 [zd4 f,vI k] [] = some (vB (zaY f k),[]):=by
 rw [ze (fn:=zfe) rfl];have a:=zyi f b 2;rw [zzE b] at a;simp -implicitDefEqProofs only [go_sem] at a
 by_cases c1 : 0 ≤ k
 ·by_cases c2 : k < f.blocks.length
  ·by_cases c3 : zac f 2 = 0
   ·simp -implicitDefEqProofs only [go_sem,zfe,a,c1,c2,c3,zaY]
   ·simp -implicitDefEqProofs only [go_sem,zfe,a,c1,c2,c3,zaY]
  ·simp -implicitDefEqProofs only [go_sem,zfe,a,c1,c2,zaY]
 ·simp -implicitDefEqProofs only [go_sem,zfe,a,c1,zaY]
theorem zat {f : PFunc} {k : Int} : zaY f k = true ↔ 0 ≤ k ∧ k < f.blocks.length ∧ RightP f 2:=by
 unfold zaY;simp only [yd,decide_eq_true_eq,zua]
abbrev ztY:=List (Int × Bool)
def vBo (b : Bool) : V:=.one (.f (.lit (.bool b)))
theorem zhT (n : Nat) (D : ztY) : C.ltm n (ziS vBo D) = true:=zwo vBo n (fun a => by simp [vBo,V.lt,C.lt]) D
theorem zz2 (k : Int) (D : ztY) : zh6 k (ziS vBo D) = (getM k D).map vBo:=zpD vBo k D
theorem zEr (k : Int) (o : Bool) (D : ztY) : zmP k (V.one (.f (.lit (.bool o)))) (ziS vBo D) = ziS vBo (zkf k o D):=zpz vBo k o D
def zjc (D : ztY) (k : Int) : Bool:=(getM k D).getD false
theorem ztq (k : Int) (σ : zd) (m : Nat) (D : ztY) (hm : σ[m]? = some (.mp (ziS vBo D))) (f : Ok σ) :
  call T 120 [vI k,.one (.ptr σ.length 0 0 0)] (σ ++ [.cells 0 1 [[.map m]]]) = some (vB (!zjc D k),σ ++ [.cells 0 1 [[.map m]]]):=by
 rw [ze (fn:=zfM) rfl];have c:=zz2 k D;have a:=zgB hm;have d:=zib hm;have ok:=fun k => Ok.up f k;unfold zjc
 cases e : getM k D with
 | none =>
   rw [e] at c;simp -implicitDefEqProofs only [go_sem] at c;simp -implicitDefEqProofs only [go_sem,zfM,a,d,c,ok,Option.getD_none]
 | some b =>
   rw [e] at c;simp -implicitDefEqProofs only [go_sem,vBo] at c;simp -implicitDefEqProofs only [go_sem,zfM,a,d,c,ok,yO]
theorem zqJ (σ : zd) (m : Nat) (D : ztY) (hm : σ[m]? = some (.mp (ziS vBo D))) (b : Ok σ) (l : List Int) (c : l.length ≤ 4294967296) :
  call T 69 [.one (.map m),vIs l] σ = some (vB (l.all (zjc D)),σ):=by
 rw [ze (fn:=ziz) rfl];have h:=zaz l (fun k => !zjc D k) 120 [] [.ptr σ.length 0 0 0] (σ ++ [Ob.cells 0 1 [[.map m]]]) c (fun x d => ztq x σ m D hm b);have ok:=fun k => Ok.up b k;have a:=Ok.at b;have hn:=zoE (zjc D) l;simp -implicitDefEqProofs only [go_sem] at h;simp -implicitDefEqProofs only [go_sem,ziz,h,ok,a,hn]
def vIv (k : Int) : V:=.one (.f (.lit (.int .i64 k)))
theorem zGK (k : Int) (D : zre) : zh6 k (ziS vIv D) = (getM k D).map vIv:=zpD vIv k D
theorem zAf (k : Int) (o : Int) (D : zre) : zmP k (V.one (.f (.lit (.int .i64 o)))) (ziS vIv D) = ziS vIv (zkf k o D):=zpz vIv k o D
def zfi (n at' : Nat) (es : List (List C)) (l : List Int) (σ : zd) : zd :=
 (σ.set (1 + at') (.cells l.length 1 (l.map zn))).set (n + 1) (.cells 0 1 (es.set at' [.own (1 + at') l.length 0 l.length]))
theorem zva (n at' : Nat) (hat : at' < n) (es : List (List C)) (l l' : List Int) (a : List C) (σ : zd) : zfi n at' (es.set at' a) l' (zfi n at' es l σ) = zfi n at' es l' σ:=by
 unfold zfi;rw [List.set_comm _ _ (show n + 1 ≠ 1 + at' by omega),ym,ym,ym]
structure RInv (n at' : Nat) (D : zre) (es : List (List C)) (l : List Int) (σ : zd) : Prop where
 len : σ.length ≤ 1000000
 elen : es.length = n
 main : σ[n + 1]? = some (.cells 0 1 es)
 at0 : es[at']? = some [.own (1 + at') l.length 0 l.length]
 row : σ[1 + at']? = some (.cells l.length 1 (l.map zn))
 map : σ[n + 2]? = some (.mp (ziS vIv D))
theorem RInv.step {n at' : Nat} {D : zre} {es : List (List C)} {l : List Int} {σ : zd} (h : RInv n at' D es l σ) (hat : at' < n) (l' : List Int) :
  RInv n at' D (es.set at' [.own (1 + at') l'.length 0 l'.length]) l' (zfi n at' es l' σ):=by
 have b : n + 1 < σ.length:=(yg.1 h.main).1;have a : 1 + at' < σ.length:=(yg.1 h.row).1;unfold zfi;refine ⟨by simp only [yc]; exact h.len,by rw [yc]; exact h.elen,?_,?_,?_,?_⟩
 ·rw [yb (by simpa using b)]
 ·rw [yb (by rw [h.elen]; exact hat)]
 ·rw [ya (by omega),yb a]
 ·rw [ya (by omega),ya (by omega)]
  exact h.map
theorem RInv.same {n at' : Nat} {D : zre} {es : List (List C)} {l : List Int} {σ : zd} (h : RInv n at' D es l σ) : zfi n at' es l σ = σ:=by
 unfold zfi;obtain ⟨c,he⟩:=yg.1 h.at0;have e1 : es.set at' [.own (1 + at') l.length 0 l.length] = es:=by rw [← he]; exact yv c
 rw [e1]
 have e2 : σ.set (1 + at') (.cells l.length 1 (l.map zn)) = σ:=by
  obtain ⟨b,a⟩:=yg.1 h.row;rw [← a]; exact yv b
 rw [e2];obtain ⟨b,a⟩:=yg.1 h.main;rw [← a]; exact yv b
section
variable (n at' : Nat) (hn : n ≤ 1000) (hat : at' < n) (D : zre) (args : List Int) (hargs : args.length ≤ 4294967296) (v5 v7 v11 v12 v13 : V)
include hn hat hargs
theorem zBN : ∀ (d j : Nat) (l : List Int) (es : List (List C)) (σ : zd) (a0 a1 a2 a8 a9 m c b g a20 h : V),args.length - j = d → j ≤ args.length → l.length + d ≤ 1000000000 → RInv n at' D es l σ →
  exec T zgH ⟨[a0,a1,a2,.one (.own (n + 1) 0 0 n),.one (.map (n + 2)),v5,vI at',v7,a8,a9,m,v11,v12,v13,c,vIs args,vI args.length,vI j,b,g,a20,h],σ,0,0⟩ =
   some (.exit 2,⟨[vU,vU,vU,.one (.own (n + 1) 0 0 n),.one (.map (n + 2)),v5,vI at',v7,vU,vU,vU,v11,v12,v13,vU,vU,vU,vU,vU,vU,vU,vU],zfi n at' es (l ++ zio D (args.drop j)) σ,0,0⟩):=by
 intro d
 induction d with
 | zero =>
   intro j l es σ a0 a1 a2 a8 a9 m c b g a20 h h1 h2 h3 hI;have a : j = args.length:=(by omega);subst a;have hlen:=hI.len;have hd : (σ.length ≤ 1000000) = True:=eq_true hI.len;have e : args.drop args.length = []:=(by simp);rw [xl zgH rfl,ziF,e,zio,yG,hI.same];simp -implicitDefEqProofs only [go_sem,yJ,hd]
 | succ d ih =>
   intro j l es σ a0 a1 a2 a8 a9 m c b g a20 h h1 h2 h3 hI;have a : j < args.length:=(by omega);have y : args.drop j = args[j] :: args.drop (j + 1):=yp a;have hd : (σ.length ≤ 1000000) = True:=eq_true hI.len;have hm:=hI.map;have i:=hI.main;have s:=hI.row;have G:=hI.at0;have p:=zGK args[j] D;have v : ((at' : Int) < (n : Int)) = True:=(by simp; omega);have x : (at' + 1 ≤ n) = True:=(by simp; omega);have u : (at' < n) = True:=eq_true hat;have B : es.length = n:=hI.elen;rw [xl zgH rfl,ziF,y]
   cases e : getM args[j] D with
   | none =>
     rw [e] at p;have:=ih (j + 1) l es σ vU vU vU vU vU vU vU vU vU vU vU (by omega) (by omega) (by omega) hI;rw [zio,e];simp -implicitDefEqProofs only [go_sem] at p this;simp -implicitDefEqProofs only [go_sem,ilt a,zj a,ri,hm,p,hd,za a hargs,this]
   | some k =>
     rw [e] at p;have z:=hI.step hat (l ++ [k]);have:=ih (j + 1) (l ++ [k]) _ _ vU vU vU vU vU vU vU vU vU vU vU (by omega) (by omega) (by simp; omega) z;rw [zva n at' hat,yM,List.cons_append,yH] at this;rw [zio,e];have H : ∀ (τ : zd) o,(τ.set (1 + at') o)[n + 1]? = τ[n + 1]?:=fun τ o => ya (by omega);have t : (l.length + 1 ≤ LIM) = True:=eq_true (by unfold LIM; omega);have r : (0 < l.length + 1) = True:=eq_true (by omega);have A : (l.map zn).take l.length = l.map zn:=yu (by simp);have E : l.map zn ++ [[C.f (.lit (.int .i64 k))]] = (l ++ [k]).map zn:=(by simp [zn]);have q : (l ++ [k]).length = l.length + 1:=(by simp);have w : ∀ (X Y : Ob),(((σ.set (1 + at') X).set (n + 1) Y).length ≤ 1000000) = True:=fun X Y => eq_true (by simpa using hI.len);simp -implicitDefEqProofs only [go_sem,vIv] at p;simp -implicitDefEqProofs only [go_sem,zfi,← E,q] at this;simp -implicitDefEqProofs only [go_sem,zfi,ilt a,zj a,ri,hm,i,s,G,p,hd,w,v,x,u,B,H,t,r,A,← E,q,ye,yf,za a hargs];exact this
end
theorem zjR (l : List Int) (n : Nat) (hn : l.length = n) (b : n ≤ 4294967296) (σ : zd) (id a : Nat) (c : σ[id]? = some (.cells a 1 (l.map zn))) :
  call T 118 [.one (.own id a 0 n)] σ = some (vIs (zp l),σ.set id (.cells (a + 1) 1 [])):=by
 rw [zlr (g:=zf4) rfl];subst hn;simp [zf4,c,ziA,LIM,b,zdA,zlt,zla,vsl];exact fun _ _ => rfl
structure HG (n k : Nat) (D : zre) (imp : List Int) (done : List (List Int)) (σ : zd) : Prop where
 len : σ.length ≤ n + 4 + k
 len2 : n + 4 ≤ σ.length
 dlen : done.length = k
 main : ∃ es,σ[n + 1]? = some (.cells 0 1 es) ∧ es.length = n ∧ (∀ i (h : i < done.length),es[i]? = some [.f (.sl (done[i].map ri))]) ∧ ∀ i,k ≤ i → i < n → es[i]? = some [.own (1 + i) 0 0 0]
 rows : ∀ i,k ≤ i → i < n → σ[1 + i]? = some (.cells 0 1 [])
 map : σ[n + 2]? = some (.mp (ziS vIv D))
 tok : σ[n + 3]? = some (.tok 1 [imp.length])
theorem zqU (l : List Int) (n : Nat) (b : l.length = n) (c : n ≤ 4294967296) (σ : zd) (id a : Nat) (d : σ[id]? = some (.cells a 1 (l.map zn))) :
  call T 117 [.one (.own id a 0 n)] σ = some (.tup [],σ.set id (.cells a 1 ((zcx l).map zn))):=by
 rw [zlr (g:=zmE) rfl];subst b;simp [zmE,d,ziA,LIM,c,zdA,zlt,zqq]
theorem zxn : ∀ l : List Int,zoV 1 (l.map ri) = true
 | [] => rfl
 | x :: l => by rw [yD,zoV,zxn l]; rfl
structure HF (n : Nat) (rows : List (List Int)) (σ : zd) : Prop where
 rlen : rows.length = n
 len2 : n + 4 ≤ σ.length
 main : ∃ es,σ[n + 1]? = some (.cells 0 1 es) ∧ es.length = n ∧ ∀ i (h : i < rows.length),es[i]? = some [.f (.sl (rows[i].map ri))]
theorem HG.step {n k : Nat} {D b : zre} {imp imp' : List Int} {done : List (List Int)} {σ τ : zd} (h : HG n k D imp done σ) (o : k < n) {es : List (List C)} (he : σ[n + 1]? = some (.cells 0 1 es)) (row : List Int)
  (m : τ.length = σ.length + 1) (d : τ[n + 1]? = some (.cells 0 1 (es.set k [.f (.sl (row.map ri))]))) (g : ∀ i,k < i → i < n → τ[1 + i]? = σ[1 + i]?) (e : τ[n + 2]? = some (.mp (ziS vIv b))) (j : τ[n + 3]? = some (.tok 1 [imp'.length])) :
  HG n (k + 1) b imp' (done ++ [row]) τ:=by
 obtain ⟨es',e0,e1,e2,e3⟩:=h.main;rw [he] at e0;simp only [Option.some.injEq,Ob.cells.injEq] at e0;obtain ⟨_,_,rfl⟩:=e0;have hd:=h.dlen;refine ⟨by have:=h.len; omega,by have:=h.len2; omega,by simp [hd],⟨_,d,by rw [yc]; exact e1,fun i l => ?_,fun i i1 i2 => ?_⟩,fun i i1 i2 => ?_,e,j⟩
 ·by_cases c : i = k
  ·subst c
   rw [yb (by omega),List.getElem_append_right (by omega)];simp [hd]
  ·have a : i < done.length:=by simp at l; omega
   rw [ya (by omega),List.getElem_append_left a];exact e2 i a
 ·rw [ya (by omega)]
  exact e3 i (by omega) i2
 ·rw [g i (by omega) i2]
  exact h.rows i (by omega) i2
section
variable (b : PBlock) (hb : okB b) (hs : ∀ o ∈ b.ops,o.args.length ≤ 64) (n : Nat) (hn : n = b.ops.length) (hn2 : n ≤ 1000)
include hb hs hn hn2
set_option maxHeartbeats 4000000 in
theorem zzY : ∀ (d k : Nat) (D : zre) (imp : List Int) (done : List (List Int)) (σ : zd) (a0 a1 a2 a6 a7 a8 a9 aB W aK aI aJ aA U a20 Y : V),n - k = d → k ≤ n → imp.length ≤ k → HG n k D imp done σ →
  ∃ σ',HF n (done ++ zdT k D imp (b.ops.drop k)) σ' ∧
  exec T zgQ ⟨[a0,a1,a2,.one (.own (n + 1) 0 0 n),.one (.map (n + 2)),.one (.ap (n + 3) 0 (imp.map ri)),a6,a7,a8,a9,aB,vL (b.ops.map ro),vI n,vI k,W,aK,aI,aJ,aA,U,a20,Y],σ,0,0⟩ =
   some (.exit 0,⟨[vU,vU,vU,.one (.own (n + 1) 0 0 n),vU,vU,vU,vU,vU,vU,vU,vU,vU,vU,vU,vU,vU,vU,vU,vU,vU,vU],σ',0,0⟩):=by
 intro d
 induction d with
 | zero =>
   intro k D imp done σ a0 a1 a2 a6 a7 a8 a9 aB W aK aI aJ aA U a20 Y h1 h2 hi hI;have r : k = n:=(by omega);subst r;have aL:=hI.len;have hd : (σ.length ≤ 1000000) = True:=(by simp; omega);have e : b.ops.drop k = []:=List.drop_eq_nil_of_le (by omega);refine ⟨σ,?_,?_⟩
   ·rw [e,zdT,yG]
    obtain ⟨es,e0,e1,e2,_⟩:=hI.main;exact ⟨hI.dlen,hI.len2,es,e0,e1,e2⟩
   ·rw [xl zgQ rfl,ziP]
    simp -implicitDefEqProofs only [go_sem,yJ,hd]
 | succ d ih =>
   intro k D imp done σ a0 a1 a2 a6 a7 a8 a9 aB W aK aI aJ aA U a20 Y h1 h2 hi hI;have r : k < b.ops.length:=(by omega);have m : k < n:=(by omega);have aU : b.ops.drop k = b.ops[k] :: b.ops.drop (k + 1):=yp r;obtain ⟨es,t,aM,aY,aW⟩:=hI.main;have aH:=hI.map;have aR:=hI.tok;have hr:=hI.rows k (yR _) m;have hlen:=hI.len2;have aL:=hI.len;have ha:=hs _ (yN r);have hR : RInv n k D es [] (σ ++ [.cells 0 6 [cOp b.ops[k]]]):=⟨by simp; omega,aM,zgB t _,aW k (yR _) m,zgB hr _,zgB aH _⟩;have x:=fun a0 a1 a2 a8 a9 aB W aA U a20 Y => zBN n k (by omega) m D b.ops[k].args (by omega) (.one (.ap (n + 3) 0 (imp.map ri))) (.one (.ptr σ.length 0 0 0)) (vL (b.ops.map ro)) (vI n) (vI k) b.ops[k].args.length 0 [] es _ a0 a1 a2 a8 a9 aB W aA U a20 Y (by omega) (by omega) (by simp; omega) hR;rw [yP,yH] at x;obtain ⟨l,hl⟩ : ∃ l,l = zio D b.ops[k].args:=⟨_,rfl⟩;rw [← hl] at x;have aX : l.length ≤ 64:=(by rw [hl]; exact Nat.le_trans (zm5 D _) ha);have a : (zfi n k es l (σ ++ [.cells 0 6 [cOp b.ops[k]]])).length = σ.length + 1:=by simp [zfi]
   have t1 : (zfi n k es l (σ ++ [.cells 0 6 [cOp b.ops[k]]]))[n + 1]? = some (.cells 0 1 (es.set k [.own (1 + k) l.length 0 l.length])):=by
    unfold zfi; rw [yb (by simp; omega)]
   have t2 : (zfi n k es l (σ ++ [.cells 0 6 [cOp b.ops[k]]]))[1 + k]? = some (.cells l.length 1 (l.map zn)):=by
    unfold zfi; rw [ya (by omega),yb (by simp; omega)]
   have t0 : ∀ j,j ≠ n + 1 → j ≠ 1 + k → (zfi n k es l (σ ++ [.cells 0 6 [cOp b.ops[k]]]))[j]? = (σ ++ [.cells 0 6 [cOp b.ops[k]]])[j]?:=fun j j1 j2 => by
    unfold zfi; rw [ya (fun h => j1 h.symm),ya (fun h => j2 h.symm)]
   have t3:=(t0 (n + 2) (by omega) (by omega)).trans (zgB aH _);have t4:=(t0 (n + 3) (by omega) (by omega)).trans (zgB aR _);have t5 : (zfi n k es l (σ ++ [.cells 0 6 [cOp b.ops[k]]]))[σ.length]? = some (.cells 0 6 [cOp b.ops[k]]):=by rw [t0 _ (by omega) (by omega)]; simp
   have t6 : ∀ i,k < i → i < n → (zfi n k es l (σ ++ [.cells 0 6 [cOp b.ops[k]]]))[1 + i]? = σ[1 + i]?:=fun i i1 i2 => by
    rw [t0 _ (by omega) (by omega),yA (by omega)]
   clear t0;generalize zfi n k es l (σ ++ [.cells 0 6 [cOp b.ops[k]]]) = τ at *;have v:=zl0 b.ops[k].kind;have B : ((k : Int) < (n : Int)) = True:=(by simp; omega);have M : (k < n) = True:=eq_true m;have N : (k + 1 ≤ n) = True:=(by simp; omega);have P : (σ.length + 1 ≤ 1000000) = True:=(by simp; omega);have s : (es.set k [.own (1 + k) l.length 0 l.length])[k]? = some [C.own (1 + k) l.length 0 l.length]:=yb (by omega);have p : (es.set k [.own (1 + k) l.length 0 l.length]).length = n:=(by rw [yc]; exact aM);have L : ∀ (ρ : zd) o,(ρ.set (1 + k) o)[n + 1]? = ρ[n + 1]?:=fun ρ o => ya (by omega);have O : ∀ (ρ : zd) o,(ρ.set (1 + k) o)[n + 2]? = ρ[n + 2]?:=fun ρ o => ya (by omega);have E : ∀ (ρ : zd) o,(ρ.set (1 + k) o)[n + 3]? = ρ[n + 3]?:=fun ρ o => ya (by omega);have y : ∀ (ρ : zd) o,(ρ.set (1 + k) o)[σ.length]? = ρ[σ.length]?:=fun ρ o => ya (by omega);have S : ∀ (ρ : zd) o,(ρ.set (n + 1) o)[1 + k]? = ρ[1 + k]?:=fun ρ o => ya (by omega);have H : ∀ (ρ : zd) o,(ρ.set (n + 1) o)[n + 2]? = ρ[n + 2]?:=fun ρ o => ya (by omega);have G : ∀ (ρ : zd) o,(ρ.set (n + 1) o)[n + 3]? = ρ[n + 3]?:=fun ρ o => ya (by omega);have J : ∀ (ρ : zd) o,(ρ.set (n + 1) o)[σ.length]? = ρ[σ.length]?:=fun ρ o => ya (by omega);have Q : ∀ (ρ : zd) o,(ρ.set (n + 2) o)[1 + k]? = ρ[1 + k]?:=fun ρ o => ya (by omega);have u32 : ∀ (ρ : zd) o,(ρ.set (n + 2) o)[n + 1]? = ρ[n + 1]?:=fun ρ o => ya (by omega);have A : ∀ (ρ : zd) o,(ρ.set (n + 2) o)[n + 3]? = ρ[n + 3]?:=fun ρ o => ya (by omega);have z : ∀ (ρ : zd) o,(ρ.set (n + 3) o)[1 + k]? = ρ[1 + k]?:=fun ρ o => ya (by omega);have R : ∀ (ρ : zd) o,(ρ.set (n + 3) o)[n + 1]? = ρ[n + 1]?:=fun ρ o => ya (by omega);have I : ∀ (ρ : zd) o,(ρ.set (n + 3) o)[n + 2]? = ρ[n + 2]?:=fun ρ o => ya (by omega);have K : ∀ (ρ : zd) o,(ρ.set (n + 3) o)[σ.length]? = ρ[σ.length]?:=fun ρ o => ya (by omega);have us : ∀ (ρ : zd) o j,(j < ρ.length) → (ρ.set j o)[j]? = some o:=fun ρ o j h => by simp [h]
   have l1 : (1 + k < σ.length + 1) = True:=(by simp; omega);have l2 : (n + 1 < σ.length + 1) = True:=(by simp; omega);have l3 : (n + 2 < σ.length + 1) = True:=(by simp; omega);have l4 : (n + 3 < σ.length + 1) = True:=(by simp; omega);have hw:=za r hb.ops;have fin:=fun (D' : zre) (imp' row : List Int) (τ' : zd) (hi' : imp'.length ≤ k + 1) (h : HG n (k + 1) D' imp' (done ++ [row]) τ') => ih (k + 1) D' imp' (done ++ [row]) τ' vU vU vU vU vU vU vU vU vU vU vU vU vU vU vU vU (by omega) (by omega) hi' h;have aV : ∀ X,done ++ X :: zdT (k + 1) (zeW D k b.ops[k]) (zjN imp k b.ops[k]) (b.ops.drop (k + 1)) = done ++ [X] ++ zdT (k + 1) (zeW D k b.ops[k]) (zjN imp k b.ops[k]) (b.ops.drop (k + 1)):=fun X => by rw [yM]; rfl
   rw [aU,zdT,aV,xl zgQ rfl,ziP]
   cases e1 : pure b.ops[k].kind with
   | true =>
     rw [e1] at v;have er : zmc D imp b.ops[k] = zp (zcx l):=(by unfold zmc; rw [if_pos e1,yG,hl]);have ei : zjN imp k b.ops[k] = imp:=(by unfold zjN; rw [if_pos e1]);have g:=s;have u:=fun ρ h => zqU l l.length rfl (by omega) ρ (1 + k) l.length h;have w:=fun ρ h => zjR (zcx l) l.length (by simp [zcx]) (by omega) ρ (1 + k) l.length h;rw [er,ei]
     by_cases e2 : 0 < b.ops[k].dst
     ·have ed : zeW D k b.ops[k] = zkf b.ops[k].dst (k : Int) D:=by unfold zeW; rw [if_pos e2]
      have q:=zAf b.ops[k].dst (k : Int) D;rw [ed];have c:=fun (τ' : zd) => fin (zkf b.ops[k].dst (k : Int) D) (imp) (zp (zcx l)) τ' (by omega);simp -implicitDefEqProofs only [go_sem] at v x u w q c;simp -implicitDefEqProofs only [go_sem,B,M,ilt r,zj r,ro,v,x,e2,q,t1,t2,t3,t4,t5,L,O,E,y,S,H,G,J,Q,u32,A,z,R,I,K,us,l1,l2,l3,l4,a,s,g,p,N,P,u,w,ye,yf,hw,yc,yh,yq];refine c _ (hI.step m t _ ?_ ?_ ?_ ?_ ?_)
      ·first | exact a | (simp only [yc]; exact a)
      ·rw [yb (by first | omega | (simp only [yc]; omega))]
       try simp only [ym]
      ·intro i i1 i2
       have:=t6 i i1 i2
       repeat rw [ya (by omega)]
       exact this
      ·repeat rw [ya (by omega)]
       exact yb (by first | omega | (simp only [yc]; omega))
      ·repeat rw [ya (by omega)]
       exact t4
     ·have ed : zeW D k b.ops[k] = D:=by unfold zeW; rw [if_neg e2]
      rw [ed];have c:=fun (τ' : zd) => fin (D) (imp) (zp (zcx l)) τ' (by omega);simp -implicitDefEqProofs only [go_sem] at v x u w c;simp -implicitDefEqProofs only [go_sem,B,M,ilt r,zj r,ro,v,x,e2,t1,t2,t3,t4,t5,L,O,E,y,S,H,G,J,Q,u32,A,z,R,I,K,us,l1,l2,l3,l4,a,s,g,p,N,P,u,w,ye,yf,hw,yc,yh,yq];refine c _ (hI.step m t _ ?_ ?_ ?_ ?_ ?_)
      ·first | exact a | (simp only [yc]; exact a)
      ·rw [yb (by first | omega | (simp only [yc]; omega))]
       try simp only [ym]
      ·intro i i1 i2
       have:=t6 i i1 i2
       repeat rw [ya (by omega)]
       exact this
      ·repeat rw [ya (by omega)]
       exact t3
      ·repeat rw [ya (by omega)]
       exact t4
   | false =>
     rw [e1] at v;have aQ : ¬ pure b.ops[k].kind = true:=(by rw [e1]; simp);have er : zmc D imp b.ops[k] = zp (zcx (l ++ imp)):=(by unfold zmc; rw [if_neg aQ,hl]);have ei : zjN imp k b.ops[k] = imp ++ [(k : Int)]:=(by unfold zjN; rw [if_neg aQ]);have aN : zoV 1 (imp.map ri) = true:=zxn imp;have aC : (imp.length + 1 ≤ LIM) = True:=eq_true (by unfold LIM; omega);have himp : imp.map ri ++ [[Fz.lit (Value.int IntKind.i64 (k : Int))]] = (imp ++ [(k : Int)]).map ri:=(by simp [ri]);rw [er,ei]
     by_cases ez : l.length + imp.length = 0
     ·have z1 : l = []:=yw (by omega)
      have z2 : imp = []:=yw (by omega);subst z1 z2;have g : (es.set k [.own (1 + k) 0 0 0])[k]? = some [C.own (1 + k) 0 0 0]:=yb (by omega);have aD : ((es.set k [.own (1 + k) 0 0 0]).set k [.own (1 + k) 0 0 0])[k]? = some [C.own (1 + k) 0 0 0]:=yb (by rw [yc]; omega);have Z : (es.set k [.own (1 + k) 0 0 0]).length = n:=(by rw [yc]; exact aM);have aP : (ri (k : Int)).length = 1:=rfl;have aE : (1 ≤ LIM) = True:=eq_true (by unfold LIM; omega);have aG : (0 + 1 ≤ LIM) = True:=eq_true (by unfold LIM; omega);have u:=fun ρ h => zqU [] 0 rfl (by omega) ρ (1 + k) 0 h;have w:=fun ρ h => zjR (zcx []) 0 (by simp [zcx]) (by omega) ρ (1 + k) 0 h
      by_cases e2 : 0 < b.ops[k].dst
      ·have ed : zeW D k b.ops[k] = zkf b.ops[k].dst (k : Int) D:=by unfold zeW; rw [if_pos e2]
       have q:=zAf b.ops[k].dst (k : Int) D;rw [ed];have c:=fun (τ' : zd) => fin (zkf b.ops[k].dst (k : Int) D) ([] ++ [(k : Int)]) (zp (zcx ([] ++ []))) τ' (by simp);simp -implicitDefEqProofs only [go_sem] at v x u w q c himp;simp -implicitDefEqProofs only [go_sem,B,M,ilt r,zj r,ro,v,x,aC,aE,aG,himp,aD,Z,aP,false_and,if_false,e2,q,t1,t2,t3,t4,t5,L,O,E,y,S,H,G,J,Q,u32,A,z,R,I,K,us,l1,l2,l3,l4,a,s,g,p,N,P,u,w,ye,yf,hw,yc,yh,yq];refine c _ (hI.step m t _ ?_ ?_ ?_ ?_ ?_)
       ·first | exact a | (simp only [yc]; exact a)
       ·rw [yb (by first | omega | (simp only [yc]; omega))]
        try simp only [ym]
       ·intro i i1 i2
        have:=t6 i i1 i2
        repeat rw [ya (by omega)]
        exact this
       ·repeat rw [ya (by omega)]
        exact yb (by first | omega | (simp only [yc]; omega))
       ·repeat rw [ya (by omega)]
        rw [yb (by first | omega | (simp only [yc]; omega))]
        try simp
      ·have ed : zeW D k b.ops[k] = D:=by unfold zeW; rw [if_neg e2]
       rw [ed];have c:=fun (τ' : zd) => fin (D) ([] ++ [(k : Int)]) (zp (zcx ([] ++ []))) τ' (by simp);simp -implicitDefEqProofs only [go_sem] at v x u w c himp;simp -implicitDefEqProofs only [go_sem,B,M,ilt r,zj r,ro,v,x,aC,aE,aG,himp,aD,Z,aP,false_and,if_false,e2,t1,t2,t3,t4,t5,L,O,E,y,S,H,G,J,Q,u32,A,z,R,I,K,us,l1,l2,l3,l4,a,s,g,p,N,P,u,w,ye,yf,hw,yc,yh,yq];refine c _ (hI.step m t _ ?_ ?_ ?_ ?_ ?_)
       ·first | exact a | (simp only [yc]; exact a)
       ·rw [yb (by first | omega | (simp only [yc]; omega))]
        try simp only [ym]
       ·intro i i1 i2
        have:=t6 i i1 i2
        repeat rw [ya (by omega)]
        exact this
       ·repeat rw [ya (by omega)]
        exact t3
       ·repeat rw [ya (by omega)]
        rw [yb (by first | omega | (simp only [yc]; omega))]
        try simp
     ·have aF : (0 < l.length + imp.length) = True:=eq_true (by omega)
      have aT : (l.length + imp.length ≤ LIM) = True:=eq_true (by unfold LIM; omega);have aS : (l.map zn).take l.length = l.map zn:=yu (by simp);have aO : l.map zn ++ (imp.map ri).map (fun e => e.map C.f) = (l ++ imp).map zn:=(by simp [zn,ri,Function.comp_def]);have g : ((es.set k [.own (1 + k) l.length 0 l.length]).set k [.own (1 + k) (l.length + 1) 0 (l.length + imp.length)])[k]? = some [C.own (1 + k) (l.length + 1) 0 (l.length + imp.length)]:=yb (by rw [yc]; omega);have u:=fun ρ h => zqU (l ++ imp) (l.length + imp.length) (by simp) (by omega) ρ (1 + k) (l.length + 1) h;have w:=fun ρ h => zjR (zcx (l ++ imp)) (l.length + imp.length) (by simp [zcx]) (by omega) ρ (1 + k) (l.length + 1) h
      by_cases e2 : 0 < b.ops[k].dst
      ·have ed : zeW D k b.ops[k] = zkf b.ops[k].dst (k : Int) D:=by unfold zeW; rw [if_pos e2]
       have q:=zAf b.ops[k].dst (k : Int) D;rw [ed];have c:=fun (τ' : zd) => fin (zkf b.ops[k].dst (k : Int) D) (imp ++ [(k : Int)]) (zp (zcx (l ++ imp))) τ' (by simp; omega);simp -implicitDefEqProofs only [go_sem] at v x u w q c himp;simp -implicitDefEqProofs only [go_sem,B,M,ilt r,zj r,ro,v,x,aC,himp,aN,aF,aT,aS,aO,e2,q,t1,t2,t3,t4,t5,L,O,E,y,S,H,G,J,Q,u32,A,z,R,I,K,us,l1,l2,l3,l4,a,s,g,p,N,P,u,w,ye,yf,hw,yc,yh,yq];refine c _ (hI.step m t _ ?_ ?_ ?_ ?_ ?_)
       ·first | exact a | (simp only [yc]; exact a)
       ·rw [yb (by first | omega | (simp only [yc]; omega))]
        try simp only [ym]
       ·intro i i1 i2
        have:=t6 i i1 i2
        repeat rw [ya (by omega)]
        exact this
       ·repeat rw [ya (by omega)]
        exact yb (by first | omega | (simp only [yc]; omega))
       ·repeat rw [ya (by omega)]
        rw [yb (by first | omega | (simp only [yc]; omega))]
        try simp
      ·have ed : zeW D k b.ops[k] = D:=by unfold zeW; rw [if_neg e2]
       rw [ed];have c:=fun (τ' : zd) => fin (D) (imp ++ [(k : Int)]) (zp (zcx (l ++ imp))) τ' (by simp; omega);simp -implicitDefEqProofs only [go_sem] at v x u w c himp;simp -implicitDefEqProofs only [go_sem,B,M,ilt r,zj r,ro,v,x,aC,himp,aN,aF,aT,aS,aO,e2,t1,t2,t3,t4,t5,L,O,E,y,S,H,G,J,Q,u32,A,z,R,I,K,us,l1,l2,l3,l4,a,s,g,p,N,P,u,w,ye,yf,hw,yc,yh,yq];refine c _ (hI.step m t _ ?_ ?_ ?_ ?_ ?_)
       ·first | exact a | (simp only [yc]; exact a)
       ·rw [yb (by first | omega | (simp only [yc]; omega))]
        try simp only [ym]
       ·intro i i1 i2
        have:=t6 i i1 i2
        repeat rw [ya (by omega)]
        exact this
       ·repeat rw [ya (by omega)]
        exact t3
       ·repeat rw [ya (by omega)]
        rw [yb (by first | omega | (simp only [yc]; omega))]
        try simp
end
theorem zwQ : ∀ (rows : List (List Int)) (es : List (List C)),es.length = rows.length → (∀ i (h : i < rows.length),es[i]? = some [.f (.sl (rows[i].map ri))]) → zaj es = some (rows.map rl)
 | [],[],_,_ => rfl
 | [],_ :: _,h,_ => by simp at h
 | _ :: _,[],h,_ => by simp at h
 | l :: rows,e :: es,h,hi => by
   have a:=hi 0 (by simp);simp only [ys,Option.some.injEq,yB] at a;have c:=zwQ rows es (by simpa using h) fun i b => by have:=hi (i + 1) (by simpa using b); simpa using this
   subst a;simp [zaj,c,zeq,zun,zgl,rl]
section
variable (b : PBlock) (hb : okB b) (hs : ∀ o ∈ b.ops,o.args.length ≤ 64) (n : Nat) (hn : n = b.ops.length) (hn2 : n ≤ 1000)
include hb hs hn hn2
theorem zlj : call T 67 [znI b] [] = some (vLs (zdv b),[]):=by
 rw [ze (fn:=zji) rfl];have d : ((n : Int) ≤ (LIM : Int)) = True:=by simp; unfold LIM; omega
 have s : (b.ops.length : Int) = n:=by rw [hn]
 have a1 : 1 + n = n + 1:=yQ 1 n;have a2 : n + 1 + 1 = n + 2:=rfl;have a3 : n + 2 + 1 = n + 3:=rfl
 have z : HG n 0 [] [] [] (Ob.cells 0 5 [zg b] :: (List.replicate n (Ob.cells 0 1 []) ++ [Ob.cells 0 1 (yT (zrv 1 [C.f (Fz.sl [])] 0) (yS n)),Ob.mp [],Ob.tok 1 [0]])):=by
  refine ⟨by simp,by simp,rfl,⟨yT (zrv 1 [C.f (Fz.sl [])] 0) (yS n),?_,by simp,fun i a => by simp at a,fun i _ a => ?_⟩,fun i _ a => ?_,?_,?_⟩
  ·rw [yl,yn (by simp)]
   simp
  ·simp [a,zrv]
  ·rw [yQ,yl,yA (by rw [yE]; exact a),List.getElem?_replicate,if_pos a]
  ·rw [yl,yn (by simp)]
   simp [ziS]
  ·rw [yl,yn (by simp)]
   simp
 have he:=fun a0 a1 a2 a6 a7 a8 a9 t l p g o e m a20 q => zzY b hb hs n hn hn2 n 0 [] [] [] _ a0 a1 a2 a6 a7 a8 a9 t l p g o e m a20 q (by omega) (by omega) (by simp) z;simp only [Int.natCast_zero] at he;obtain ⟨σ',c,h⟩:=he (znI b) (.one (.ptr 0 0 0 0)) (vL []) vU vU vU vU vU vU vU vU vU vU vU vU vU;rw [yH,yP] at c;have eS : zdT 0 [] [] b.ops = zdv b:=rfl;rw [eS] at c;obtain ⟨es,r,y,u⟩:=c.main;have w:=c.rlen;have x:=zwQ (zdv b) es (by omega) u;have v : es.take n = es:=yu (by omega);have hd : es.drop 0 = es:=rfl;have j:=c.len2;have k : (σ'.length ≤ 0) = False:=eq_false (by omega);simp -implicitDefEqProofs only [go_sem] at h;simp -implicitDefEqProofs only [go_sem,zji,s,d,ye,yf,yh,yE,List.length_cons,List.length_nil,a1,a2,a3,h,r,x,v,hd,k]
end
def zm7 (D : ztY) (done : List Int) : Prop:=∀ x,zjc D x = decide (x ∈ done)
theorem zm7.nil : zm7 [] []:=fun x => by simp [zjc,getM]
theorem zm7.put {D : ztY} {done : List Int} (h : zm7 D done) (x : Int) : zm7 (zkf x true D) (done ++ [x]):=fun y => by
 have a:=h y;unfold zjc at a ⊢;rw [zvQ]
 by_cases c : x = y
 ·rw [if_pos c]; simp [c]
 ·rw [if_neg c,a]
  have : (y ∈ done ++ [x]) ↔ y ∈ done:=by simp; exact fun e => absurd e.symm c
  rw [Bool.eq_iff_iff,decide_eq_true_eq,decide_eq_true_eq,this]
theorem zm7.all {D : ztY} {done : List Int} (h : zm7 D done) (l : List Int) : l.all (zjc D) = l.all fun y => decide (y ∈ done):=by
 congr 1
 exact funext h
section
variable (b : PBlock) (n : Nat) (hn : n = b.ops.length) (hn2 : n ≤ 1000) (on : List (List Int)) (hon : on.length = n) (hol : ∀ l ∈ on,l.length ≤ 4294967296) (order : List Int) (ho : order.length = n)
include hn hn2 hon hol ho
theorem zAK : ∀ (d k : Nat) (D : ztY) (done : List Int),n - k = d → k ≤ n → zm7 D done → ∃ D' : ztY,∀ (a0 a1 a3 a6 a7 g i : V),
  exec T zbB ⟨[a0,a1,.one (.ptr 0 0 0 0),a3,.one (.map 1),vLs on,a6,a7,vIs order,vI n,vI k,g,i],[.cells 0 5 [zg b],.mp (ziS vBo D)],0,0⟩ =
   some (if zgL on n done (order.drop k) = true then (.exit 0,⟨[vU,vU,vU,vU,vU,vU,vU,vU,vU,vU,vU,vU,vU],[.cells 0 5 [zg b],.mp (ziS vBo D')],0,0⟩) else (.ret,⟨[vU,vU,vU,vB false,vU,vU,vU,vU,vU,vU,vU,vU,vU],[.cells 0 5 [zg b],.mp (ziS vBo D')],0,0⟩)):=by
 intro d
 induction d with
 | zero =>
   intro k D done x z p;have l : k = n:=(by omega);subst l;refine ⟨D,fun a0 a1 a3 a6 a7 g i => ?_⟩;have e : order.drop k = []:=(by simp [ho]);rw [xl zbB rfl,zc1,e,zgL,if_pos rfl];simp -implicitDefEqProofs only [go_sem,yJ,zhT]
 | succ d ih =>
   intro k D done x z p;have l : k < order.length:=(by omega);have u : order.drop k = order[k] :: order.drop (k + 1):=yp l;have f : ((k : Int) < (n : Int)) = True:=(by simp; omega);have j : (b.ops.length : Int) = n:=(by rw [hn]);rw [u,zgL]
   by_cases c1 : order[k] < 0
   ·refine ⟨D,fun a0 a1 a3 a6 a7 g i => ?_⟩
    have h : ¬ 0 ≤ order[k]:=(by omega);rw [decide_eq_false h,yo,yo,if_neg (by simp),xl zbB rfl,zc1];simp -implicitDefEqProofs only [go_sem,f,c1,zj l,ri,zhT]
   have h : 0 ≤ order[k]:=by omega
   by_cases c2 : (n : Int) ≤ order[k]
   ·refine ⟨D,fun a0 a1 a3 a6 a7 g i => ?_⟩
    have o : ¬ order[k] < (n : Int):=(by omega);rw [decide_eq_false o,yo,Bool.and_false,yo,if_neg (by simp),xl zbB rfl,zc1];simp -implicitDefEqProofs only [go_sem,f,c1,c2,j,zj l,ri,zhT]
   have o : order[k] < (n : Int):=(by omega);have q:=zz2 order[k] D;have hw:=p order[k];rw [decide_eq_true h,decide_eq_true o,yF,yF]
   by_cases c3 : order[k] ∈ done
   ·refine ⟨D,fun a0 a1 a3 a6 a7 g i => ?_⟩
    rw [decide_eq_true c3] at hw ⊢
    have t : getM order[k] D = some true:=by
     unfold zjc at hw
     cases e : getM order[k] D with
     | none => rw [e] at hw; cases hw
     | some v => rw [e] at hw; exact congrArg some hw
    rw [t] at q;rw [show (!true) = false from rfl,yo,yo,if_neg (by simp),xl zbB rfl,zc1];simp -implicitDefEqProofs only [go_sem,vBo] at q;simp -implicitDefEqProofs only [go_sem,f,c1,c2,j,zj l,ri,q,zhT]
   rw [decide_eq_false c3] at hw ⊢
   have a : zh6 order[k] (ziS vBo D) = none ∨ zh6 order[k] (ziS vBo D) = some (vBo false):=by
    rw [q];unfold zjc at hw
    cases e : getM order[k] D with
    | none => exact .inl rfl
    | some v => rw [e] at hw; right; simp only [yO] at hw; rw [hw]; rfl
   have c : on[order[k].toNat]? = some (on.getD order[k].toNat []):=(by rw [yy,yr (by omega)]; rfl);have s : (on.getD order[k].toNat []).length ≤ 4294967296:=hol _ (List.mem_of_getElem? c);have m:=zqJ [.cells 0 5 [zg b],.mp (ziS vBo D)] 1 D rfl (by unfold Ok; simp -implicitDefEqProofs only [go_sem,zhT]) (on.getD order[k].toNat []) s;rw [p.all] at m;rw [show (!false) = true from rfl,yF]
   cases c4 : ((on.getD order[k].toNat []).all fun y => decide (y ∈ done)) with
   | false =>
     refine ⟨D,fun a0 a1 a3 a6 a7 g i => ?_⟩;rw [c4] at m;rw [yo,if_neg (by simp),xl zbB rfl,zc1];simp -implicitDefEqProofs only [go_sem] at m;rcases a with a | a
     ·simp -implicitDefEqProofs only [go_sem,f,c1,h,c2,j,zj l,ri,rl,yx,c,a,m,zhT]
     ·simp -implicitDefEqProofs only [go_sem,vBo] at a
      simp -implicitDefEqProofs only [go_sem,f,c1,h,c2,j,zj l,ri,rl,yx,c,a,m,zhT]
   | true =>
     rw [c4] at m;rw [yF];obtain ⟨D',r⟩:=ih (k + 1) (zkf order[k] true D) (done ++ [order[k]]) (by omega) (by omega) (p.put _);refine ⟨D',fun a0 a1 a3 a6 a7 g i => ?_⟩;have w:=zEr order[k] true D;have:=r vU vU vU vU vU vU vU;rw [xl zbB rfl,zc1];simp -implicitDefEqProofs only [go_sem] at m this;rcases a with a | a
     ·simp -implicitDefEqProofs only [go_sem,f,c1,h,c2,j,zj l,ri,rl,yx,c,a,w,m,zhT,za l (show order.length ≤ 4294967296 by omega),this]
     ·simp -implicitDefEqProofs only [go_sem,vBo] at a
      simp -implicitDefEqProofs only [go_sem,f,c1,h,c2,j,zj l,ri,rl,yx,c,a,w,m,zhT,za l (show order.length ≤ 4294967296 by omega),this]
end
end AC
