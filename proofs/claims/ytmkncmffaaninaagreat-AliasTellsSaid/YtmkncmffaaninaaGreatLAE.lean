/- A part of the proof of AliasTells. Conditions: none. -/
import Derived.Test.YtmkncmffaaninaaGreatLAD
import Derived.Scope
set_option linter.all false
open Option renaming bind_eq_some_iff → ya,map_eq_some_iff → yb,bind_some → ym,getD_some → yw
open Bool renaming and_eq_true → yc,false_eq_true → yd,not_eq_true' → yn
open Array renaming getD_eq_getD_getElem? → ye,getElem?_eq_getElem → yf,getElem?_eq_some_iff → yg,replicate → yC
open List renaming getElem?_eq_getElem → yh,range → yi,getD_eq_getElem?_getD → yj,mem_append_left → yk,eq_nil_of_length_eq_zero → yl,replicate → yo,length_cons → yq,filter_cons → yr,mem_append_right → yt,mem_cons_of_mem → yu,getElem?_range → yv,mem_filter → yz,range_succ → yA,mapM_cons → yB,mem_map → yD,range' → yE
open Nat renaming le_refl → yp,lt_or_ge → yx,strongRecOn → yy
namespace Go.A
def zg6 (κ : List Tmp) (loc : List (Option Tmp)) (gops : Array Go.Oper) : Option (Nat × Bool) → Option (X × Bool) → Bool
 | none,none => true
 | some (j,b),some (x,b') => (b == b') && (match (gops[j]?).bind (·.dst) with
   | some t => okX κ loc (.tmp t) x
   | none => false)
 | _,_ => false
def zlz (P : Program) (κ : List Tmp) (nt : Nat) (gops : Array Go.Oper) : List (Option Tmp) → List Go.Oper → List Oper → Bool
 | _,[],[] => true
 | loc,o :: os,x :: xs => okD κ nt o.dst x.dst && zg6 κ loc gops o.guard x.guard && zom P κ loc o x.dst x.op && zlz P κ nt gops (zbE o.dst x.dst :: loc) os xs
 | _,_,_ => false
section
variable {P : Program} {κ : List Tmp} {loc : List (Option Tmp)} {nt : Nat} {g : G} {w : World} {r r' : R} {a : Act} {o : Go.Oper} {d : D} {next : Act → World → Prop} {Q : Exit → Act → World → Prop}
theorem ztl (F : Fr κ loc nt g w r a) {gops : Array Go.Oper} {b : Option (Nat × Bool)} {c : Option (X × Bool)} (h : zg6 κ loc gops b c = true) : (c = none → b = none):=by
 unfold zg6 at h;split at h
 ·exact fun _ => rfl
 ·intro h; cases h
 ·cases h
theorem zAK {gops : Array Go.Oper} {j : Nat} {t : Tmp} {b : Bool} (h : (gops[j]?).bind (·.dst) = some t) (c : a.tmps.getD t undef = .bool b) : yielded gops a.tmps j = some b:=by
 unfold yielded;rw [h];simp only [ym]
 cases d : a.tmps[t]? with
 | none => rw [ye,d] at c; cases c
 | some v =>
   rw [ye,d] at c;simp only [yw] at c;rw [c]
theorem zek {s : zaz} (S : zhU P s) (m : Rel g w r.st) (F : Fr κ loc nt g w r a) {gops : Array Go.Oper} {x : Oper} (hd : okD κ nt o.dst x.dst = true) (e : zg6 κ loc gops o.guard x.guard = true) (q : zom P κ loc o x.dst x.op = true) {r1 : R} (h : step s r x = some r1)
  (k : zsl κ (zbE o.dst x.dst :: loc) nt g w r r1 (a.put o.dst) next) (G : ∀ a',next a' w → next a' w) :
  if Region.wanted o (yielded gops a.tmps) then o.wp P a w next Q else next (a.put o.dst undef) w:=by
 obtain ⟨d,op,D⟩:=x;simp only at hd e q
 cases D with
 | none =>
   have:=ztl F e rfl;simp only [Region.wanted,this,if_true];exact zzF S m ⟨trivial⟩ F hd q h k
 | some p =>
   obtain ⟨y,b⟩:=p;unfold zg6 at e;split at e
   ·rename_i heq; cases heq
   ·rename_i j u H E l heq
    injection heq with heq;injection heq with heq1 heq2;subst heq1 heq2;simp only [yc,beq_iff_eq] at e;obtain ⟨rfl,e⟩:=e;split at e
    ·rename_i t z
     have i:=F.get e;simp only [step] at h;unfold zpW at h;split at h
     ·rename_i tb c
      rw [c] at i;obtain ⟨ev,_⟩:=zaf i;have n:=zAK (gops:=gops) z ev;simp only [Region.wanted,l,n];split at h
      ·rename_i f
       subst f;simp only [beq_self_eq_true,if_true];exact zzF S m ⟨trivial⟩ F hd q h k
      ·rename_i f
       injection h with h;subst h;have : (some tb == some u) = false:=(by simpa using f);rw [this];simp only [yd,if_false];refine k g w _ ?_ ?_ ⟨trivial⟩ (F.put hd fun _ => by simp only [zh]; exact ⟨#[],rfl,by simp only [zW]⟩)
       ·rw [zfW]; exact Ext.refl _ _ _
       ·rw [zfW]; exact m
     ·rename_i c
      rw [c] at i;injection h with h;subst h
      have hu : a.tmps.getD t undef = .tuple #[]:=by
       simp only [zh,zW] at i;obtain ⟨us,A,B⟩:=i;have : us = #[]:=(by cases us; simpa using B);rw [this] at A;exact A
      have n : yielded gops a.tmps j = none:=by
       unfold yielded;rw [z];simp only [ym]
       cases C : a.tmps[t]? with
       | none => rfl
       | some v =>
         rw [ye,C] at hu;simp only [yw] at hu;rw [hu]
      simp only [Region.wanted,l,n];have : (none == some u) = false:=rfl;rw [this];simp only [yd,if_false];refine k g w _ ?_ ?_ ⟨trivial⟩ (F.put hd fun _ => by simp only [zh]; exact ⟨#[],rfl,by simp only [zW]⟩)
      ·rw [zfW]; exact Ext.refl _ _ _
      ·rw [zfW]; exact m
     ·cases h
    ·cases e
   ·cases e
theorem zwC {d : zaz} (S : zhU P d) {gops : Array Go.Oper} : ∀ (os : List Go.Oper) (xs : List Oper) (i : Nat) {loc : List (Option Tmp)} {g : G} {w : World} {r : R} {a : Act} {r1 : R},(∀ j,os[j]? = gops[i + j]?) → zlz P κ nt gops loc os xs = true → steps d xs r = some r1 → Rel g w r.st → Fr κ loc nt g w r a →
  (∀ g' w' a' loc',Ext g w r.st g' w' r1.st → Rel g' w' r1.st → Fr κ loc' nt g' w' r1 a' → Q .normal a' w') → wpOps P gops Q (yE i os.length) a w
 | [],[],i,loc,g,w,r,a,r1,_,_,h,R0,F,k => by
   simp only [steps,Option.some.injEq] at h;subst h;exact k g w a loc (Ext.refl _ _ _) R0 F
 | o :: os,x :: xs,i,loc,g,w,r,a,r1,hi,hc,h,R0,F,k => by
   simp only [zlz,yc] at hc;obtain ⟨⟨⟨v,n⟩,s⟩,u⟩:=hc;simp only [steps,ya] at h;obtain ⟨A,e,f⟩:=h;have c : gops[i]? = some o:=(by simpa using (hi 0).symm);rw [yq,List.range'_succ]
   have key:=zek (Q:=Q) (gops:=gops) (next:=wpOps P gops Q (yE (i + 1) os.length)) S R0 F v n s e (fun g' w' a' H m _ q =>
    zwC S os xs (i + 1) (fun j => by
     have:=hi (j + 1);rw [show i + (j + 1) = i + 1 + j from by omega] at this;rw [← this]
     simp) u f m q fun p y a2 b t l z => k p y a2 b (H.trans t) l z) (fun _ h => h)
   simp only [wpOps,c];split
   ·rename_i hw
    rw [if_pos hw] at key;exact .inl key
   ·rename_i hw
    rw [if_neg hw] at key;exact key
 | [],_ :: _,_,_,_,_,_,_,_,_,hc,_,_,_,_ => by simp [zlz] at hc
 | _ :: _,[],_,_,_,_,_,_,_,_,hc,_,_,_,_ => by simp [zlz] at hc
structure At' (g0 : G) (w0 : World) (σ0 : zd) (κ : List Tmp) (nt : Nat) (g : G) (w : World) (s : St) (a : Act) : Prop where
 ext : Ext g0 w0 σ0 g w s.st
 rel : Rel g w s.st
 fr : Fr κ [] nt g w ⟨[],s.env,s.st,s.base,s.lim⟩ a
theorem Fr.bare {rs : List V} {env : List V} {st : zd} {b l e c : Nat} (F : Fr κ loc nt g w ⟨rs,env,st,b,l⟩ a) : Fr κ [] nt g w ⟨[],env,st,e,c⟩ a :=
 ⟨F.size,F.len,F.env,fun d t h => by simp at h,fun d t h => by simp at h,F.nd,F.bd,F.df⟩
theorem zoX : ∀ {bs : List Bool} {vs : List V},bs.length = vs.length → (clr bs vs).length = vs.length
 | [],[],_ => rfl
 | true :: bs,v :: vs,h => by simp only [clr,yq]; rw [zoX (by simpa using h)]
 | false :: bs,v :: vs,h => by simp only [clr,yq]; rw [zoX (by simpa using h)]
 | [],_ :: _,h => by simp at h
 | _ :: _,[],h => by simp at h
theorem zxM : ∀ {bs : List Bool} {vs : List V} {i : Nat},(clr bs vs).getD i vun = vs.getD i vun ∨ (clr bs vs).getD i vun = vun
 | [],vs,i => .inr (by simp [clr])
 | true :: bs,[],i => .inr (by simp [clr])
 | false :: bs,[],i => .inr (by simp [clr])
 | true :: bs,v :: vs,0 => .inl (by simp [clr])
 | false :: bs,v :: vs,0 => .inr (by simp [clr])
 | true :: bs,v :: vs,i + 1 => by simpa [clr] using zxM (bs:=bs) (vs:=vs) (i:=i)
 | false :: bs,v :: vs,i + 1 => by simpa [clr] using zxM (bs:=bs) (vs:=vs) (i:=i)
theorem Fr.clr {env : List V} {st : zd} {b l : Nat} {bs : List Bool} (F : Fr κ [] nt g w ⟨[],env,st,b,l⟩ a) (c : bs.length = κ.length) : Fr κ [] nt g w ⟨[],Go.A.clr bs env,st,b,l⟩ a :=
 ⟨F.size,by
  have:=F.len;simp only at this
  show (Go.A.clr bs env).length = _
  rw [zoX (by rw [c]; exact this.symm)]
  exact this,fun i t h => by
  have:=F.env i t h;simp only at this ⊢;rcases zxM (bs:=bs) (vs:=env) (i:=i) with e | e
  ·rw [e]; exact this
  ·rw [e]; simp only [vun,zh,zK],fun d t h => by simp at h,fun d t h => by simp at h,F.nd,F.bd,F.df⟩
theorem zyG {n : Nat} : ∀ {vs : List V} {i : Nat},V.lts n vs = true → (vs.getD i vun).lt n = true
 | [],i,_ => by simp [vun,V.lt,C.lt]
 | v :: vs,0,h => by
   simp only [V.lts,yc] at h;simpa using h.1
 | v :: vs,i + 1,h => by
   simp only [V.lts,yc] at h;simpa using zyG (vs:=vs) (i:=i) h.2
theorem zqI {g0 : G} {w0 : World} {σ0 : zd} {s f : St} {live : List Bool} {b : Nat} (k : Clean g0 σ0.length) (m : σ0.length ≤ s.base) (j : live.length = κ.length) (h : s.clear live b = some f) (A : At' g0 w0 σ0 κ nt g w s a) : ∃ g',At' g0 w0 σ0 κ nt g' w f a:=by
 unfold St.clear at h;rw [yb] at h;obtain ⟨σ',h,rfl⟩:=h;have c:=A.fr.clr (bs:=live) j;unfold zn1 at h;split at h
 ·injection h with h
  subst h;exact ⟨g,A.ext,A.rel,c⟩
 ·split at h
  ·rename_i e
   injection h with h;subst h;simp only [yc] at e;refine ⟨g.drop (s.base + b) w,zzk A.ext k (by omega),zzl A.rel e.2,⟨c.size,c.len,fun i t l => ?_,fun d t h => by simp at h,fun d t h => by simp at h,c.nd,c.bd,c.df⟩⟩;exact zlr _ _ (c.env i t l) (zyG e.1)
  ·cases h
end
theorem zjI {s b : St} {live : List Bool} {a : Nat} (h : s.clear live a = some b) : b.base = s.base ∧ b.lim = s.lim:=by
 unfold St.clear at h;rw [yb] at h;obtain ⟨σ',_,rfl⟩:=h;exact ⟨rfl,rfl⟩
theorem zEc {sp : Spec} {s s1 : St} (h : zxc sp s = some s1) : s1.base = s.base ∧ s1.lim = s.lim:=by
 unfold zxc at h;rw [ya] at h;obtain ⟨r,_,h⟩:=h;unfold zyZ at h;split at h
 ·split at h
  ·cases h
  ·simp only [ya,yb] at h
   obtain ⟨es,_,ds,_,a,_,h⟩:=h;subst h;exact ⟨rfl,rfl⟩
 ·cases h
theorem zei (T : Nat → Option Entry) : ∀ (n : Nat) (c : Code) (s : St) (e : Ex) (i : St),zae T n c s = some (e,i) → i.base = s.base ∧ i.lim = s.lim
 | 0,_,_,_,_,h => by simp [zae] at h
 | n + 1,c,s,e,i,h => by
   have g:=zei T n;cases c <;> simp only [zae] at h
   case skip => injection h with h; injection h with f d; subst d; exact ⟨rfl,rfl⟩
   case label => injection h with h; injection h with f d; subst d; exact ⟨rfl,rfl⟩
   case ret => injection h with h; injection h with f d; subst d; exact ⟨rfl,rfl⟩
   case reg ops =>
    rw [yb] at h;obtain ⟨r,_,h⟩:=h;injection h with f d;subst d;exact ⟨rfl,rfl⟩
   case regd ps ops =>
    rw [yb] at h;obtain ⟨r,_,h⟩:=h;injection h with f d;subst d;exact ⟨rfl,rfl⟩
   case spec sp =>
    rw [yb] at h;obtain ⟨s1,f,h⟩:=h;injection h with _ d;subst d;exact zEc f
   case exit id live objs =>
    rw [yb] at h;obtain ⟨s1,f,h⟩:=h;injection h with _ d;subst d;exact zjI f
   case goto id live objs =>
    rw [yb] at h;obtain ⟨s1,f,h⟩:=h;injection h with _ d;subst d;exact zjI f
   case seq a b =>
    rw [ya] at h;obtain ⟨⟨e1,s1⟩,f,d⟩:=h;have i1:=g a s e1 s1 f;cases e1 <;> simp only [zsm] at d
    case normal => have i2:=g b s1 e i d; exact ⟨i2.1.trans i1.1,i2.2.trans i1.2⟩
    all_goals
     injection d with d;injection d with _ d;subst d;exact i1
   case cond x a b =>
    unfold zuo at h;split at h
    ·split at h
     ·exact g _ _ _ _ h
     ·exact g _ _ _ _ h
    ·cases h
   case block id body =>
    rw [yb] at h;obtain ⟨⟨e1,s1⟩,f,d⟩:=h;have i1:=g _ _ _ _ f;unfold zwe at d;split at d
    ·rename_i heq
     injection heq with q1 q2;subst q2;split at d <;> (injection d with _ d; subst d; exact i1)
    ·injection d with _ d
     subst d;exact i1
   case loop live objs body =>
    rw [ya] at h;obtain ⟨⟨e1,s1⟩,f,d⟩:=h;have i1:=g _ _ _ _ f;cases e1 <;> simp only [zq7] at d
    case normal =>
     rw [ya] at d;obtain ⟨s2,d,j⟩:=d;have i2:=zjI d;have i3:=g _ _ _ _ j;exact ⟨i3.1.trans (i2.1.trans i1.1),i3.2.trans (i2.2.trans i1.2)⟩
    all_goals
     injection d with d;injection d with _ d;subst d;exact i1
   case scope body => exact g _ _ _ _ h
   case sc body cur =>
    rw [ya] at h;obtain ⟨⟨e1,s1⟩,f,d⟩:=h;have i1:=g _ _ _ _ f;unfold scK at d;split at d
    ·rename_i heq
     injection heq with q1 q2;subst q2;split at d
     ·have i2:=g _ _ _ _ d; exact ⟨i2.1.trans i1.1,i2.2.trans i1.2⟩
     ·injection d with d; injection d with _ d; subst d; exact i1
    ·injection d with d
     injection d with _ d;subst d;exact i1
structure Draws where
 a : List Tmp → Nat → Array Go.Oper → List Oper → Bool
 b : List Tmp → Nat → Array Go.Oper → List (Nat × Nat) → List Oper → Bool
 c : List Tmp → Nat → Go.Code → Spec → Bool
def zw (P : Program) (CD : Draws) (κ : List Tmp) (nt : Nat) : Go.Code → Code → Bool
 | .skip,.skip => true
 | c,.spec sp => CD.c κ nt c sp
 | .region _ ops draw,.regd ps xs => draw && CD.b κ nt ops ps xs
 | .region _ ops draw,.reg xs => if draw then CD.a κ nt ops xs else zlz P κ nt ops [] ops.toList xs
 | .seq a b,.seq a' b' => zw P CD κ nt a a' && zw P CD κ nt b b'
 | .cond c a b,.cond x a' b' => okX κ [] c x && zw P CD κ nt a a' && zw P CD κ nt b b'
 | .block id b,.block id' b' => (id == id') && zw P CD κ nt b b'
 | .loop b,.loop live _ b' => (live.length == κ.length) && zw P CD κ nt b b'
 | .exit id,.exit id' live _ => (id == id') && (live.length == κ.length)
 | .scope b,.scope b' => zw P CD κ nt b b'
 | .label l,.label l' => l == l'
 | .goto l,.goto l' live _ => (l == l') && (live.length == κ.length)
 | .ret,.ret live => live.length == κ.length
 | _,_ => false
def zEA (P : Program) (κ : List Tmp) (nt id : Nat) (gops : Array Go.Oper) (r r1 : R) : Prop:=∀ (g : G) (w : World) (a : Act) (Q : Exit → Act → World → Prop),
 Rel g w r.st → Fr κ [] nt g w r a → (∀ g' w' a' loc',Ext g w r.st g' w' r1.st → Rel g' w' r1.st → Fr κ loc' nt g' w' r1 a' → Q .normal a' w') → (Go.Code.region id gops true).wp P Q a w
structure DrawOk (P : Program) (CD : Draws) : Prop where
 a : ∀ (Cf : zaz),zhU P Cf → ∀ (κ : List Tmp) (nt id : Nat) (gops : Array Go.Oper) (xs : List Oper),CD.a κ nt gops xs = true → ∀ (r r1 : R),r.rs = [] → steps Cf xs r = some r1 → zEA P κ nt id gops r r1
 b : ∀ (Cf : zaz),zhU P Cf → ∀ (κ : List Tmp) (nt id : Nat) (gops : Array Go.Oper) (ps : List (Nat × Nat)) (xs : List Oper),CD.b κ nt gops ps xs = true → ∀ (r r1 : R),r.rs = [] → zxf Cf ps xs r = some r1 → zEA P κ nt id gops r r1
 lab : ∀ κ nt c sp,CD.c κ nt c sp = true → ∀ l,Go.findLabel c l = none
 c : ∀ (κ : List Tmp) (nt : Nat) (c : Go.Code) (sp : Spec),CD.c κ nt c sp = true → ∀ (s s1 : St),zxc sp s = some s1 → ∀ (g : G) (w : World) (a : Act) (Q : Exit → Act → World → Prop),
   Rel g w s.st → Fr κ [] nt g w ⟨[],s.env,s.st,s.base,s.lim⟩ a → (∀ g' w' a',Ext g w s.st g' w' s1.st → Rel g' w' s1.st → Fr κ [] nt g' w' ⟨[],s1.env,s1.st,s1.base,s1.lim⟩ a' → Q .normal a' w') → c.wp P Q a w
section
variable {P : Program} {CD : Draws} {κ : List Tmp} {nt : Nat}
theorem zmz (e : DrawOk P CD) : ∀ {c : Go.Code} {ac : Code} {l : Nat},zw P CD κ nt c ac = true → findLabel ac l = none → Go.findLabel c l = none
 | c,.seq a' b',l,h,hf => by
   cases c <;> simp only [zw,yd] at h;rename_i a b;simp only [yc] at h;simp only [findLabel] at hf;split at hf
   ·cases hf
   ·rename_i f
    simp only [Go.findLabel,zmz e h.1 f,zmz e h.2 hf]
 | c,.label l',l,h,hf => by
   cases c <;> simp only [zw,yd] at h;rename_i g;simp only [beq_iff_eq] at h;subst h;simp only [findLabel] at hf;split at hf
   ·cases hf
   ·rename_i d
    have : (g == l) = false:=(by simpa using d);simp [Go.findLabel,this]
 | c,.skip,l,h,hf => by cases c <;> simp_all [zw,Go.findLabel]
 | c,.reg _,l,h,hf => by cases c <;> simp_all [zw,Go.findLabel]
 | c,.regd _ _,l,h,hf => by cases c <;> simp_all [zw,Go.findLabel]
 | c,.spec sp,l,h,hf => e.lab κ nt c sp (by simpa only [zw] using h) l
 | c,.cond _ _ _,l,h,hf => by cases c <;> simp_all [zw,Go.findLabel]
 | c,.block _ _,l,h,hf => by cases c <;> simp_all [zw,Go.findLabel]
 | c,.loop _ _ _,l,h,hf => by cases c <;> simp_all [zw,Go.findLabel]
 | c,.exit _ _ _,l,h,hf => by cases c <;> simp_all [zw,Go.findLabel]
 | c,.scope _,l,h,hf => by cases c <;> simp_all [zw,Go.findLabel]
 | c,.sc _ _,l,h,hf => by cases c <;> simp_all [zw]
 | c,.goto _ _ _,l,h,hf => by cases c <;> simp_all [zw,Go.findLabel]
 | c,.ret _,l,h,hf => by cases c <;> simp_all [zw,Go.findLabel]
theorem zpj (f : DrawOk P CD) : ∀ {c : Go.Code} {ac ar : Code} {l : Nat},zw P CD κ nt c ac = true → findLabel ac l = some ar → ∃ r,Go.findLabel c l = some r ∧ zw P CD κ nt r ar = true
 | c,.seq a' b',ar,l,h,hf => by
   cases c <;> simp only [zw,yd] at h;rename_i a b;simp only [yc] at h;simp only [findLabel] at hf;split at hf
   ·rename_i rest d
    injection hf with hf;subst hf;obtain ⟨r,e,g⟩:=zpj f h.1 d;exact ⟨.seq r b,by simp only [Go.findLabel,e],by simp [zw,g,h.2]⟩
   ·rename_i d
    obtain ⟨r,e,g⟩:=zpj f h.2 hf;exact ⟨r,by simp only [Go.findLabel,zmz f h.1 d,e],g⟩
 | c,.label l',ar,l,h,hf => by
   cases c <;> simp only [zw,yd] at h;rename_i i;simp only [beq_iff_eq] at h;subst h;simp only [findLabel] at hf;split at hf
   ·rename_i he
    injection hf with hf;subst hf;exact ⟨.skip,by simp [Go.findLabel,he],rfl⟩
   ·cases hf
 | c,.skip,_,l,h,hf => by simp [findLabel] at hf
 | c,.reg _,_,l,h,hf => by simp [findLabel] at hf
 | c,.cond _ _ _,_,l,h,hf => by simp [findLabel] at hf
 | c,.block _ _,_,l,h,hf => by simp [findLabel] at hf
 | c,.loop _ _ _,_,l,h,hf => by simp [findLabel] at hf
 | c,.exit _ _ _,_,l,h,hf => by simp [findLabel] at hf
 | c,.scope _,_,l,h,hf => by simp [findLabel] at hf
 | c,.sc _ _,_,l,h,hf => by simp [findLabel] at hf
 | c,.goto _ _ _,_,l,h,hf => by simp [findLabel] at hf
 | c,.ret _,_,l,h,hf => by simp [findLabel] at hf
end
section
variable {P : Program} {a : Act} {w : World} {Q : Exit → Act → World → Prop}
def RL (P : Program) (c : Go.Code) (Q : Exit → Act → World → Prop) (a : Act) (w : World) : Prop :=
 ∀ (b : Frame) (k : List Item) (cs : List Frame),∃ e a' w',Q e a' w' ∧ Arrives P (lone (b.at a (.code c :: .inLoop c :: k)) cs w) b k cs e a' w'
theorem zyX {c : Go.Code} (h : RL P c Q a w) : (Go.Code.loop c).wp P Q a w:=fun b k cs =>
 let ⟨e,a',w',q,r⟩:=h b k cs; ⟨e,a',w',q,.of_steps (.one step_loop) r⟩
theorem zxx {c : Go.Code} (h : c.wp P (Exit.then (RL P c Q) Q) a w) : RL P c Q a w:=by
 intro b k cs;obtain ⟨e,i,j,g,d⟩:=h b (.inLoop c :: k) cs
 cases e with
 | normal =>
   obtain ⟨o,p,n,m,f⟩:=g b k cs;exact ⟨o,p,n,m,.of_steps (Steps.trans d (.one step_inLoop)) f⟩
 | exit id => exact ⟨_,i,j,g,.pass (x:=.inLoop c) rfl (fun _ _ => .inl (by simp)) d⟩
 | goto l => exact ⟨_,i,j,g,.pass (x:=.inLoop c) rfl (fun _ _ => .inl (by simp)) d⟩
 | ret => exact ⟨_,i,j,g,.pass (x:=.inLoop c) rfl (fun _ _ => .inl (by simp)) d⟩
 | panic ch => exact ⟨_,i,j,g,.pass (x:=.inLoop c) rfl (fun _ _ => .inl (by simp)) d⟩
 | outgrown => exact ⟨_,i,j,g,.pass (x:=.inLoop c) rfl (fun _ _ => .inl (by simp)) d⟩
def RS (P : Program) (body : Go.Code) (Q : Exit → Act → World → Prop) (rest : Go.Code) (a : Act) (w : World) : Prop :=
 ∀ (b : Frame) (k : List Item) (cs : List Frame),∃ e a' w',Q e a' w' ∧ Arrives P (lone (b.at a (.code rest :: .inScope body :: k)) cs w) b k cs e a' w'
def Exit.inSc (P : Program) (body : Go.Code) (Q : Exit → Act → World → Prop) : Exit → Act → World → Prop
 | .goto l,a,w => match Go.findLabel body l with
   | some r => RS P body Q r a w
   | none => Q (.goto l) a w
 | e,a,w => Q e a w
theorem zFd {body : Go.Code} (h : RS P body Q body a w) : (Go.Code.scope body).wp P Q a w:=fun b k cs =>
 let ⟨e,a',w',q,r⟩:=h b k cs; ⟨e,a',w',q,.of_steps (.one step_scope) r⟩
theorem zHG {body rest : Go.Code} (h : rest.wp P (Exit.inSc P body Q) a w) : RS P body Q rest a w:=by
 intro b k cs;obtain ⟨e,i,g,d,c⟩:=h b (.inScope body :: k) cs
 cases e with
 | normal => exact ⟨.normal,i,g,d,Steps.trans c (.one step_inScope)⟩
 | exit id => exact ⟨.exit id,i,g,d,fun n o => c n (by simp [exitTo,o])⟩
 | goto l =>
   simp only [Exit.inSc] at d
   cases j : Go.findLabel body l with
   | none =>
     rw [j] at d;exact ⟨.goto l,i,g,d,fun n o => c n (by simp [gotoIn,j,o])⟩
   | some r =>
     rw [j] at d;obtain ⟨s,p,q,m,f⟩:=d b k cs;exact ⟨s,p,q,m,.of_steps (c _ (by simp [gotoIn,j])) f⟩
 | ret => exact ⟨_,i,g,d,c⟩
 | panic ch => exact ⟨_,i,g,d,c⟩
 | outgrown => exact ⟨_,i,g,d,c⟩
end
def zm5 : Ex → Exit
 | .normal => .normal
 | .exit i => .exit i
 | .goto l => .goto l
 | .ret => .ret
section
variable {P : Program} {CD : Draws} {κ : List Tmp} {nt : Nat} {g0 : G} {w0 : World} {σ0 : zd} {T : Nat → Option Entry}
def zHc (g0 : G) (w0 : World) (σ0 : zd) (κ : List Tmp) (nt : Nat) (e : Ex) (s' : St) : Exit → Act → World → Prop:=fun x a w => x = zm5 e ∧ ∃ g,At' g0 w0 σ0 κ nt g w s' a
theorem zqB (J : DrawOk P CD) (B : Clean g0 σ0.length) : ∀ (n : Nat),(∀ m,m < n → zhU P (zg2 T (zae T m))) →
  (∀ (c : Go.Code) (ac : Code) (s : St) (e : Ex) (C : St),zw P CD κ nt c ac = true → zae T n ac s = some (e,C) → ∀ g w a,σ0.length ≤ s.base → At' g0 w0 σ0 κ nt g w s a → c.wp P (zHc g0 w0 σ0 κ nt e C) a w) ∧
  (∀ (I gc : Go.Code) (ab ac : Code) (s : St) (e : Ex) (C : St),zw P CD κ nt I ab = true → zw P CD κ nt gc ac = true → zae T n (.sc ab ac) s = some (e,C) → ∀ g w a,σ0.length ≤ s.base → At' g0 w0 σ0 κ nt g w s a → RS P I (zHc g0 w0 σ0 κ nt e C) gc a w) ∧
  (∀ (I : Go.Code) (live : List Bool) (r : Nat) (ab : Code) (s : St) (e : Ex) (C : St),live.length = κ.length → zw P CD κ nt I ab = true → zae T n (.loop live r ab) s = some (e,C) → ∀ g w a,σ0.length ≤ s.base → At' g0 w0 σ0 κ nt g w s a → RL P I (zHc g0 w0 σ0 κ nt e C) a w)
 | 0,_ => ⟨fun _ _ _ _ _ _ h => by simp [zae] at h,fun _ _ _ _ _ _ _ _ _ h => by simp [zae] at h,fun _ _ _ _ _ _ _ _ _ h => by simp [zae] at h⟩
 | n + 1,hS => by
   obtain ⟨u,M,R⟩:=zqB J B n fun m hm => hS m (by omega);have G:=hS n (by omega);refine ⟨fun c ac s e C f h g w a q A => ?_,fun I gc ab ac s e C E V h g w a q A => ?_,fun I live r ab s e C K f h g w a q A => ?_⟩
   ·cases ac <;> simp only [zae] at h
    case skip =>
     injection h with h;injection h with k d;subst k d;cases c <;> simp only [zw,yd] at f;exact wp_skip ⟨rfl,g,A⟩
    case label l =>
     injection h with h;injection h with k d;subst k d;cases c <;> simp only [zw,yd] at f;exact wp_label ⟨rfl,g,A⟩
    case ret live =>
     injection h with h;injection h with k d;subst k d;cases c <;> simp only [zw,yd,beq_iff_eq] at f;exact wp_ret ⟨rfl,g,A.ext,A.rel,A.fr.clr f⟩
    case exit id live r =>
     rw [yb] at h;obtain ⟨s1,k,h⟩:=h;injection h with d o;subst d o;cases c <;> simp only [zw,yd,yc,beq_iff_eq] at f;obtain ⟨rfl,K⟩:=f;obtain ⟨g',p⟩:=zqI B q K k A;exact wp_exit ⟨rfl,g',p⟩
    case goto l live r =>
     rw [yb] at h;obtain ⟨s1,k,h⟩:=h;injection h with d o;subst d o;cases c <;> simp only [zw,yd,yc,beq_iff_eq] at f;obtain ⟨rfl,K⟩:=f;obtain ⟨g',p⟩:=zqI B q K k A;exact wp_goto ⟨rfl,g',p⟩
    case reg xs =>
     rw [yb] at h;obtain ⟨r1,k,h⟩:=h;injection h with d o;subst d o
     have z : ∀ g' w' v y,Ext g w s.st g' w' r1.st → Rel g' w' r1.st → Fr κ y nt g' w' r1 v → zHc g0 w0 σ0 κ nt .normal ⟨r1.env,r1.st,s.base,s.lim⟩ .normal v w':=fun g' w' v y H N O =>
      ⟨rfl,g',A.ext.trans H,N,Fr.bare (rs:=r1.rs) (b:=r1.base) (l:=r1.lim) O⟩
     cases c <;> simp only [zw,yd] at f;rename_i id ops draw;cases draw
     ·simp only [yd,if_false] at f
      refine wp_region ?_;rw [List.range_eq_range'];have:=zwC (Q:=zHc g0 w0 σ0 κ nt .normal ⟨r1.env,r1.st,s.base,s.lim⟩) G ops.toList xs 0 (loc:=[]) (fun j => by simp) f k A.rel A.fr z;simpa using this
     ·simp only [if_true] at f
      exact J.a _ G κ nt id ops xs f _ r1 rfl k g w a _ A.rel A.fr z
    case regd ps xs =>
     rw [yb] at h;obtain ⟨r1,k,h⟩:=h;injection h with d o;subst d o
     have z : ∀ g' w' v y,Ext g w s.st g' w' r1.st → Rel g' w' r1.st → Fr κ y nt g' w' r1 v → zHc g0 w0 σ0 κ nt .normal ⟨r1.env,r1.st,s.base,s.lim⟩ .normal v w':=fun g' w' v y H N O =>
      ⟨rfl,g',A.ext.trans H,N,Fr.bare (rs:=r1.rs) (b:=r1.base) (l:=r1.lim) O⟩
     cases c <;> simp only [zw,yd,yc] at f;rename_i id ops draw;obtain ⟨rfl,f⟩:=f;exact J.b _ G κ nt id ops ps xs f _ r1 rfl k g w a _ A.rel A.fr z
    case spec sp =>
     rw [yb] at h;obtain ⟨s1,k,h⟩:=h;injection h with d o;subst d o;have W : CD.c κ nt c sp = true:=(by simpa only [zw] using f);exact J.c κ nt c sp W s s1 k g w a _ A.rel A.fr fun g' w' v H N O => ⟨rfl,g',A.ext.trans H,N,O⟩
    case seq a1 b1 =>
     rw [ya] at h;obtain ⟨⟨e1,s1⟩,k,d⟩:=h;cases c <;> simp only [zw,yd,yc] at f;have i:=zei T n _ _ _ _ k;refine wp_seq (wp_mono (u _ _ _ _ _ f.1 k g w a q A) fun x v w' D => ?_);obtain ⟨rfl,g',p⟩:=D;cases e1 <;> simp only [zsm] at d <;> simp only [zm5,Exit.then]
     case normal => exact u _ _ _ _ _ f.2 d g' w' v (by rw [i.1]; exact q) p
     all_goals
      injection d with d;injection d with d o;subst d o;exact ⟨rfl,g',p⟩
    case cond x a1 b1 =>
     unfold zuo at h;cases c <;> simp only [zw,yd,yc] at f;have Z:=A.fr.get f.1.1;split at h
     ·rename_i t L
      rw [L] at Z;obtain ⟨ev,_⟩:=zaf Z;refine wp_cond_split ev (fun Y => ?_) (fun Y => ?_)
      ·rw [if_pos Y] at h
       exact u _ _ _ _ _ f.1.2 h g w a q A
      ·rw [if_neg (by simp [Y])] at h
       exact u _ _ _ _ _ f.2 h g w a q A
     ·cases h
    case block id body =>
     rw [yb] at h;obtain ⟨⟨e1,s1⟩,k,d⟩:=h;cases c <;> simp only [zw,yd,yc,beq_iff_eq] at f;obtain ⟨rfl,f⟩:=f;refine wp_block (wp_mono (u _ _ _ _ _ f k g w a q A) fun x v w' D => ?_);obtain ⟨rfl,g',p⟩:=D;cases e1 <;> simp only [zwe] at d <;> simp only [zm5,Exit.inBlock]
     case exit id' =>
      split at d
      ·rename_i he
       injection d with d o;subst d o;rw [if_pos he];exact ⟨rfl,g',p⟩
      ·rename_i he
       injection d with d o;subst d o;rw [if_neg he];exact ⟨rfl,g',p⟩
     all_goals
      injection d with d o;subst d o;exact ⟨rfl,g',p⟩
    case loop live r body =>
     cases c <;> simp only [zw,yd,yc,beq_iff_eq] at f;refine zyX (zxx ?_);rw [ya] at h;obtain ⟨⟨e1,s1⟩,k,d⟩:=h;have i:=zei T n _ _ _ _ k;refine wp_mono (u _ _ _ _ _ f.2 k g w a q A) fun x v w' D => ?_;obtain ⟨rfl,g',p⟩:=D;cases e1 <;> simp only [zq7] at d <;> simp only [zm5,Exit.then]
     case normal =>
      rw [ya] at d;obtain ⟨s2,d,o⟩:=d;obtain ⟨X,U⟩:=zqI B (by rw [i.1]; exact q) f.1 d p;exact R _ _ _ _ _ _ _ f.1 f.2 o X w' v (by rw [(zjI d).1,i.1]; exact q) U
     all_goals
      injection d with d;injection d with d o;subst d o;exact ⟨rfl,g',p⟩
    case scope body =>
     cases c <;> simp only [zw,yd] at f;exact zFd (M _ _ _ _ _ _ _ f f h g w a q A)
    case sc => cases c <;> simp [zw] at f
   ·simp only [zae] at h
    rw [ya] at h;obtain ⟨⟨e1,s1⟩,k,d⟩:=h;have i:=zei T n _ _ _ _ k;refine zHG (wp_mono (u _ _ _ _ _ V k g w a q A) fun x v w' D => ?_);obtain ⟨rfl,g',p⟩:=D;cases e1 <;> simp only [scK] at d <;> simp only [zm5,Exit.inSc]
    case goto l =>
     cases S : findLabel ab l with
     | none =>
       rw [S] at d;rw [zmz J E S];injection d with d;injection d with d o;subst d o;exact ⟨rfl,g',p⟩
     | some ar =>
       rw [S] at d;obtain ⟨rr,q1,q2⟩:=zpj J E S;rw [q1];exact M _ _ _ _ _ _ _ E q2 d g' w' v (by rw [i.1]; exact q) p
    all_goals
     injection d with d;injection d with d o;subst d o;exact ⟨rfl,g',p⟩
   ·simp only [zae] at h
    refine zxx ?_;rw [ya] at h;obtain ⟨⟨e1,s1⟩,k,d⟩:=h;have i:=zei T n _ _ _ _ k;refine wp_mono (u _ _ _ _ _ f k g w a q A) fun x v w' D => ?_;obtain ⟨rfl,g',p⟩:=D;cases e1 <;> simp only [zq7] at d <;> simp only [zm5,Exit.then]
    case normal =>
     rw [ya] at d;obtain ⟨s2,d,o⟩:=d;obtain ⟨X,U⟩:=zqI B (by rw [i.1]; exact q) K d p;exact R _ _ _ _ _ _ _ K f o X w' v (by rw [(zjI d).1,i.1]; exact q) U
    all_goals
     injection d with d;injection d with d o;subst d o;exact ⟨rfl,g',p⟩
end
def zk1 (P : Program) (κ : List Tmp) : List ResultVar → List (Nat × Option (Option Nat)) → Bool
 | [],[] => true
 | .tmp t :: rs,(i,none) :: xs => (κ[i]? == some t) && zk1 P κ rs xs
 | .cell t ty :: rs,(i,some sz) :: xs => (κ[i]? == some t) && zI3 P ty sz && zk1 P κ rs xs
 | _,_ => false
def zk2 : List Nat → Bool
 | [] => true
 | x :: xs => !xs.contains x && zk2 xs
theorem znO : ∀ {xs : List Nat},zk2 xs = true → xs.Nodup
 | [],_ => List.nodup_nil
 | x :: xs,h => by
   simp only [zk2,yc,yn] at h;exact List.nodup_cons.2 ⟨by simpa using h.1,znO h.2⟩
def zzJ (P : Program) (CD : Draws) (κ : List Tmp) (gf : Func) (fn : Fun) : Bool :=
 (match gf.body with
  | some c => zw P CD κ gf.ntmps c fn.body
  | none => false) &&
 zk2 κ && κ.all (fun t => decide (t < gf.ntmps)) && κ.length == fn.nslots && decide (fn.np ≤ fn.nslots) && decide (fn.np ≤ gf.ntmps) && (κ.take fn.np == yi fn.np) && zk1 P κ gf.results.toList fn.results
def zAR (P : Program) (CD : Draws) (T : Nat → Option Entry) : Prop:=∀ f,
 (∀ fn, T f = some (.fn fn) → ∃ gf κ, P.funcs[f]? = some gf ∧ (gf.name == "runtime.NumGoroutine") = false ∧ zzJ P CD κ gf fn = true) ∧
 (∀ ext,T f = some (.ext ext) → ∀ args σ v σ',ext args σ = some (v,σ') → Enters P f ∧ ∀ g w us,Rel g w σ → zW g w σ args us → Calls P f us.toArray w fun e w' => ∃ u g',e = .returned u ∧ zh g' w' σ' v u ∧ Rel g' w' σ' ∧ Ext g w σ g' w' σ')
section
variable {P : Program} {CD : Draws} {κ : List Tmp} {nt : Nat} {g : G} {w : World} {σ : zd} {T : Nat → Option Entry} {a : Act}
theorem zxQ {t : TypeId} {x : Operand} {u : Value} (h : (execOp a.eval { (default : Go.Oper) with op:=.load t x }).run P w = .ok (.value u) w) : ∃ ad,a.eval x = .pointer (some ad) ∧ (loadVar t ad).run P w = .ok u w ∨ ¬ ∃ ad,a.eval x = .pointer (some ad):=by
 by_cases b : ∃ ad,a.eval x = .pointer (some ad)
 ·obtain ⟨ad,b⟩:=b
  refine ⟨ad,.inl ⟨b,?_⟩⟩;unfold execOp at h;simp only [b] at h;simp only [Instr.loadAt,Instr.sureAddr,Sem.run_bind,Sem.run_pure,Result.andThen_ok] at h
  cases c : (loadVar t ad).run P w with
  | ok v w1 =>
    rw [c] at h;simp only [Result.andThen_ok] at h;injection h with h1 h2;injection h1 with h1;rw [h1,h2]
  | halt x w1 =>
    rw [c] at h;simp [Result.andThen] at h
 ·exact ⟨⟨0,0,none⟩,.inr b⟩
def zzq (tmps : Array Value) : ResultVar → Sem Value
 | .tmp t => pure (tmps.getD t undef)
 | .cell ad t => do loadVar t (← asAddr (tmps.getD ad undef))
theorem zAx (gf : Func) (tmps : Array Value) : results gf tmps = (do
  let vs ← gf.results.mapM (zzq tmps)
  pure (if h : vs.size = 1 then vs[0] else .tuple vs)):=by
 unfold results
 congr 1
theorem zyA {r : R} (x : Rel g w r.st) (F : Fr κ [] nt g w r a) : ∀ {rs : List ResultVar} {xs : List (Nat × Option (Option Nat))} {raw : Bool} {lim : Nat} {vs : List V},zk1 P κ rs xs = true → outs raw lim r.st r.env xs = some vs →
  ∃ us v0s,(rs.mapM (zzq a.tmps)).run P w = .ok us w ∧ zW g w r.st v0s us ∧ v0s.length = vs.length ∧ ∀ (i : Nat) (v : V),vs[i]? = some v → ∃ v0,v0s[i]? = some v0 ∧ zCO raw lim r.st v0 = some v
 | [],[],raw,lim,vs,_,h => by
   simp only [outs,Option.some.injEq] at h;subst h;exact ⟨[],[],by simp,by simp only [zW],rfl,fun i v h => by simp at h⟩
 | .tmp t :: rs,(i,none) :: xs,raw,lim,vs,hc,h => by
   simp only [zk1,yc,beq_iff_eq] at hc;simp only [outs] at h;obtain ⟨v,q,k,s,rfl⟩:=zhb h;obtain ⟨us,v0s,p,z,n,y⟩:=zyA x F hc.2 s;simp only [zwE,ym] at k;refine ⟨a.tmps.getD t undef :: us,r.env.getD i vun :: v0s,by simp [yB,zzq,p],by simp only [zW]; exact ⟨_,_,rfl,F.env i t hc.1,z⟩,by simp [n],fun j v' b => ?_⟩
   cases j with
   | zero => simp at b; subst b; exact ⟨_,by simp,k⟩
   | succ j => simpa using y j v' (by simpa using b)
 | .cell t ty :: rs,(i,some sz) :: xs,raw,lim,vs,hc,h => by
   simp only [zk1,yc,beq_iff_eq] at hc;simp only [outs] at h;obtain ⟨v,q,k,s,rfl⟩:=zhb h;obtain ⟨us,v0s,p,z,n,y⟩:=zyA x F hc.2 s;rw [ya] at k;obtain ⟨v0,f,C⟩:=k;simp only [zwE] at f;have l : zh g w r.st (r.env.getD i vun) (a.eval (.tmp t)):=F.env i t hc.1.1;obtain ⟨u,B,A⟩:=zyY (P:=P) (o:={ (default : Go.Oper) with op:=.load ty (.tmp t) }) x rfl (zpE hc.1.2) l f
   have d : ∃ ad,a.eval (.tmp t) = .pointer (some ad):=by
    unfold ald at f
    split at f <;> first
     | (rename_i he; rw [he] at l; simp only [zh,zK] at l; first | (obtain ⟨_,_,_,_,_,_,ad,e⟩:=l; exact ⟨ad,e⟩) | (obtain ⟨_,_,e,_⟩:=l; exact ⟨_,e⟩))
     | cases f
   obtain ⟨ad,c | m⟩:=zxQ B
   ·have he : a.tmps.getD t undef = .pointer (some ad):=c.1
    refine ⟨u :: us,v0 :: v0s,by simp only [yB,zzq,he,asAddr,Sem.run_bind,Sem.run_pure,Result.andThen_ok,c.2,p],by simp only [zW]; exact ⟨_,_,rfl,A,z⟩,by simp [n],fun j v' b => ?_⟩
    cases j with
    | zero => simp at b; subst b; exact ⟨_,by simp,C⟩
    | succ j => simpa using y j v' (by simpa using b)
   ·exact absurd d m
 | [],_ :: _,_,_,_,hc,_ => by simp [zk1] at hc
 | .tmp _ :: _,[],_,_,_,hc,_ => by simp [zk1] at hc
 | .cell _ _ :: _,[],_,_,_,hc,_ => by simp [zk1] at hc
 | .tmp _ :: _,(_,some _) :: _,_,_,_,hc,_ => by simp [zk1] at hc
 | .cell _ _ :: _,(_,none) :: _,_,_,_,hc,_ => by simp [zk1] at hc
theorem zpX {lim : Nat} (d : σ.length ≤ lim) : ∀ {cs : List C} {xs : List Fz},zkL lim σ cs = some xs → zgp cs = some xs
 | [],xs,h => by simpa only [zkL,zgp] using h
 | c :: cs,xs,h => by
   simp only [zkL] at h;simp only [zgp];unfold zhN at h ⊢;split at h
   ·rename_i x ys a e
    injection h with h;subst h;rw [zpX d e]
    have : zAj c = some x:=by
     unfold zGn at a;split at a
     ·split at a
      ·rename_i b
       rw [yb] at a;obtain ⟨_,a,_⟩:=a;rw [ya] at a;obtain ⟨_,a,_⟩:=a;have:=zb a;omega
      ·cases a
     ·exact a
    rw [this]
   ·cases h
theorem zp9 (e : Rel g w σ) {lim : Nat} : ∀ {cs : List C} {xs : List Fz} {us : List Value},zkL lim σ cs = some xs → zC g w σ cs us → zC (g.drop lim w) w (σ.take lim) (xs.map C.f) us
 | [],xs,us,h,hr => by
   simp only [zkL,Option.some.injEq] at h;subst h;simpa only [List.map_nil,zC] using hr
 | c :: cs,xs,us,h,hr => by
   simp only [zkL] at h;unfold zhN at h;split at h
   ·rename_i x ys a q
    injection h with h;subst h;simp only [zC] at hr;obtain ⟨v,vs,rfl,j,s⟩:=hr;simp only [List.map_cons,zC];refine ⟨v,vs,rfl,?_,zp9 e q s⟩;unfold zGn at a;split at a
    ·split at a
     ·rename_i id d lo n i
      rw [yb] at a;obtain ⟨ys,a,rfl⟩:=a;simp only [zK];refine zoW e (fun b o h => .inl h) (fun o => ?_) a (by simpa only [zh] using j)
      by_cases k : ∃ sz es,σ[id]? = some (.cells d sz es) ∧ es ≠ []
      ·obtain ⟨sz,es,r,p⟩:=k
       obtain ⟨m,_,arr,t,l,_⟩:=e.ob id _ r p;exact .inl (.inr ⟨(yg.1 l).1,id,i,m⟩)
      ·exact .inr k
     ·cases a
    ·simp only [zK]
     exact zdv zig _ v (zia a j)
   ·cases h
theorem zGI {lim : Nat} {raw : Bool} {v0 v : V} {u : Value} (d : σ.length ≤ lim) (h : zCO raw lim σ v0 = some v) (a : zh g w σ v0 u) : zh g w σ v u:=by
 unfold zCO at h;split at h
 ·injection h with h; subst h; exact a
 ·unfold zHp at h
  split at h
  ·split at h
   ·rename_i id e lo n f
    rw [yb] at h;obtain ⟨xs,h,_⟩:=h;rw [ya] at h;obtain ⟨i,h,_⟩:=h;have:=zb h;omega
   ·cases h
  ·injection h with h
   subst h;simp only [zh,zK] at a;simp only [vsl,zh,zK];exact a.1
  ·rw [yb] at h
   obtain ⟨xs,h,rfl⟩:=h;simp only [zh] at a;obtain ⟨us,b,c⟩:=a;simp only [zEV,zh];exact ⟨us,b,zpo (ziE.refl _ _) rfl (zpX d h) c⟩
  ·injection h with h; subst h; exact a
theorem zGe (e : Rel g w σ) {lim : Nat} {raw : Bool} {v0 v : V} {u : Value} (h : zCO raw lim σ v0 = some v) (a : zh g w σ v0 u) (c : v.lt lim = true) : zh (g.drop lim w) w (σ.take lim) v u:=by
 unfold zCO at h;split at h
 ·injection h with h; subst h; exact zlr _ _ a c
 ·unfold zHp at h
  split at h
  ·split at h
   ·rename_i id d lo n f
    rw [yb] at h;obtain ⟨xs,h,rfl⟩:=h;simp only [vsl,zh,zK];refine zoW e (fun b o h => .inl h) (fun o => ?_) h a
    by_cases i : ∃ sz es,σ[id]? = some (.cells d sz es) ∧ es ≠ []
    ·obtain ⟨sz,es,l,q⟩:=i
     obtain ⟨k,_,arr,t,j,_⟩:=e.ob id _ l q;exact .inl (.inr ⟨(yg.1 j).1,id,f,k⟩)
    ·exact .inr i
   ·cases h
  ·injection h with h
   subst h;simp only [zh,zK] at a;simp only [vsl,zh,zK];exact zdv zig _ u a.1
  ·rw [yb] at h
   obtain ⟨xs,h,rfl⟩:=h;simp only [zh] at a;obtain ⟨us,p,m⟩:=a;simp only [zEV,zh];exact ⟨us,p,zp9 e h m⟩
  ·injection h with h; subst h; exact zlr _ _ a c
theorem zjl : ∀ {vs : List V} {us : List Value},zW g w σ vs us → us.length = vs.length
 | [],us,h => by simp only [zW] at h; simp [h]
 | c :: cs,us,h => by
   simp only [zW] at h;obtain ⟨v,vs,rfl,_,a⟩:=h;simp [zjl a]
theorem zuA : ∀ {vs : List V} {us : List Value},us.length = vs.length → (∀ (j : Nat) (c : V) (u : Value),vs[j]? = some c → us[j]? = some u → zh g w σ c u) → zW g w σ vs us
 | [],us,hl,_ => by simp only [zW]; exact yl (by simpa using hl)
 | c :: cs,[],hl,_ => by simp at hl
 | c :: cs,v :: vs,hl,h => by
   simp only [zW];exact ⟨v,vs,rfl,h 0 c v (by simp) (by simp),zuA (by simpa using hl) fun j c u a hu => h (j + 1) c u (by simpa using a) (by simpa using hu)⟩
theorem zCS {n : Nat} : ∀ {vs : List V} {i : Nat} {v : V},V.lts n vs = true → vs[i]? = some v → v.lt n = true
 | [],_,_,_,h => by simp at h
 | x :: xs,0,v,hl,h => by
   simp only [V.lts,yc] at hl;simp at h;subst h;exact hl.1
 | x :: xs,i + 1,v,hl,h => by
   simp only [V.lts,yc] at hl;exact zCS hl.2 (by simpa using h)
theorem znr {g0 : G} {w0 : World} {σ0 : zd} {fn : Fun} {gf : Func} {e : Ex} {s : St} {v : V} {σ' : zd} (i : Clean g0 σ0.length) (m : σ0.length ≤ s.lim) (D : zk1 P κ gf.results.toList fn.results = true) (h : leave fn.raw fn.results (e,s) = some (v,σ')) (A : At' g0 w0 σ0 κ nt g w s a) :
  (e = .normal ∨ e = .ret) ∧ a.defers = [] ∧ ∃ u,(results gf a.tmps).run P w = .ok u w ∧ ∃ g',zh g' w σ' v u ∧ Rel g' w σ' ∧ Ext g0 w0 σ0 g' w σ':=by
 have y : (e = .normal ∨ e = .ret) ∧ (outs fn.raw s.lim s.st s.env fn.results).bind (zof s.lim s.st) = some (v,σ'):=by
  cases e <;> simp only [leave] at h
  case normal => exact ⟨.inl rfl,h⟩
  case ret => exact ⟨.inr rfl,h⟩
  all_goals cases h
 refine ⟨y.1,A.fr.df,?_⟩;have h:=y.2;rw [ya] at h;obtain ⟨vs,E,b⟩:=h;unfold zof at b;rw [yb] at b;obtain ⟨σ2,b,p⟩:=b;injection p with p h4;subst p h4;obtain ⟨us,H,B,r,J,t⟩:=zyA (P:=P) A.rel A.fr D E;have z:=zjl r
 have k : (results gf a.tmps).run P w = .ok (if us.length = 1 then us.getD 0 undef else .tuple us.toArray) w:=by
  rw [zAx,Array.mapM_eq_mapM_toList];simp only [Sem.run_bind,Sem.run_map,B];simp only [Result.andThen_ok,Sem.run_pure]
  congr 1
  by_cases h : us.length = 1
  ·match us,h with
   | [x],_ => simp
  ·simp [h]
 have hval : ∀ {g' : G},zW g' w σ2 vs us → zh g' w σ2 (zHj vs) (if us.length = 1 then us.getD 0 undef else .tuple us.toArray):=fun {g'} hv => by
  have I:=zjl hv;unfold zHj;split
  ·simp only [zW] at hv
   obtain ⟨x,xs,rfl,l,rfl⟩:=hv;simpa using l
  ·rename_i q
   have : us.length ≠ 1:=fun h => by
    rw [I] at h
    match vs,h with
    | [x],_ => exact q x rfl
   rw [if_neg this];simp only [zh];exact ⟨_,rfl,by simpa using hv⟩
 refine ⟨_,k,?_⟩;unfold zn1 at b;split at b
 ·rename_i hle
  injection b with b;subst b;refine ⟨g,hval (zuA (by omega) fun j c u i hu => ?_),A.rel,A.ext⟩;obtain ⟨v0,l,o⟩:=t j c i;obtain ⟨C,d,n⟩:=zla r l;rw [hu] at d;injection d with d;subst d;exact zGI hle o n
 ·split at b
  ·rename_i f
   injection b with b;subst b;simp only [yc] at f;refine ⟨g.drop s.lim w,hval (zuA (by omega) fun j c u i hu => ?_),zzl A.rel f.2,zzk A.ext i m⟩;obtain ⟨v0,l,o⟩:=t j c i;obtain ⟨C,d,n⟩:=zla r l;rw [hu] at d;injection d with d;subst d;exact zGe A.rel o n (zCS f.1 i)
  ·cases b
theorem znc {gf : Func} {fn : Fun} {args : List V} {us : List Value} (n : Rel g w σ) (f : zW g w σ args us) (c : zk2 κ = true) (a : κ.all (fun t => decide (t < gf.ntmps)) = true) (hlen : κ.length = fn.nslots) (q : fn.np ≤ fn.nslots) (p : fn.np ≤ gf.ntmps) (m : κ.take fn.np = yi fn.np) (j : args.length = fn.np) :
  At' (g.clean σ.length) w σ κ gf.ntmps (g.clean σ.length) w (enter fn args σ) { tmps:=us.toArray ++ yC (gf.ntmps - us.toArray.size) undef,defers:=[] }:=by
 have k:=zjl f;refine ⟨Ext.refl _ _ _,zB3 n,⟨by simp; omega,by simp [enter]; omega,fun i t e => ?_,fun d t h => by simp at h,fun d t h => by simp at h,znO c,fun t e => by simpa using List.all_eq_true.1 a t e,rfl⟩⟩
 by_cases b : i < args.length
 ·have : t = i:=by
   have e1 : (κ.take fn.np)[i]? = some t:=(by rw [zki (by omega)]; exact e);rw [m,yv (by omega)] at e1;injection e1 with e1;exact e1.symm
  subst this
  have e2 : (args ++ yo (fn.nslots - args.length) vun).getD t vun = args[t]:=by
   rw [yj,List.getElem?_append_left b,yh b];rfl
  show zh (g.clean σ.length) w σ ((args ++ yo (fn.nslots - args.length) vun).getD t vun) _
  rw [e2];obtain ⟨u,o,l⟩:=zla f (yh b)
  have e3 : (us.toArray ++ yC (gf.ntmps - us.toArray.size) undef).getD t undef = u:=by
   rw [ye,Array.getElem?_append_left (by simp; omega)];simp [o]
  rw [e3];exact zgJ (g:=g) (g':=g.clean σ.length) rfl rfl rfl _ _ l
 ·have e2 : (args ++ yo (fn.nslots - args.length) vun).getD i vun = vun:=by
   rw [yj,List.getElem?_append_right (by omega),List.getElem?_replicate];split <;> rfl
  show zh (g.clean σ.length) w σ ((args ++ yo (fn.nslots - args.length) vun).getD i vun) _
  rw [e2];simp only [vun,zh,zK]
theorem zIQ (I : DrawOk P CD) (y : zAR P CD T) (n : Nat) : zhU P (zg2 T (zae T n)):=by
 induction n using yy with
 | _ n ih =>
   intro f args σ v σ' h;unfold zg2 at h;split at h
   ·rename_i fn q
    split at h
    ·rename_i p
     obtain ⟨gf,κ,m,k,b⟩:=(y f).1 fn q;unfold zzJ at b;simp only [yc,beq_iff_eq,decide_eq_true_eq] at b;obtain ⟨⟨⟨⟨⟨⟨⟨t,L⟩,R⟩,S⟩,C⟩,J⟩,D⟩,K⟩:=b;split at t
     ·rename_i c a
      refine ⟨⟨gf,c,m,k,a⟩,fun g w us M Q => ?_⟩;rw [ya] at h;obtain ⟨⟨e,s⟩,hex,d⟩:=h;have E:=znc (gf:=gf) M Q L R S C J D p;have j:=zei T n _ _ _ _ hex;have l:=(zqB (T:=T) (g0:=g.clean σ.length) (w0:=w) (σ0:=σ) (κ:=κ) (nt:=gf.ntmps) I (zhc g σ.length) n ih).1 c fn.body _ e s t hex _ _ _ (yp _) E;refine calls_of_wp m a (wp_mono l fun x z w' W => ?_);obtain ⟨rfl,g',U⟩:=W;obtain ⟨N,H,u,O,r,B,V,A⟩:=znr (gf:=gf) (zhc g σ.length) (by rw [j.2]; exact Nat.le_add_right _ _) K d U
      have i : z.defers = [] ∧ ∃ v1,(results gf z.tmps).run P w' = .ok v1 w' ∧ ∃ u g',(Ending.returned v1) = .returned u ∧ zh g' w' σ' v u ∧ Rel g' w' σ' ∧ Ext g w σ g' w' σ' :=
       ⟨H,u,O,u,G.under g w r,rfl,zgJ (g:=r) (g':=G.under g w r) rfl rfl rfl _ _ B,zq3 A V,zqX A⟩
      rcases N with rfl | rfl
      ·exact i
      ·exact i
     ·cases t
    ·cases h
   ·rename_i ext o
    exact (y f).2 ext o args σ v σ' h
   ·cases h
theorem sound (b : DrawOk P CD) (c : zAR P CD T) : zhU P (call T):=fun f args σ v σ' h => by
 obtain ⟨n,a⟩:=zt8 h;exact zIQ b c n f args σ v σ' a
end
def zz7 (o : Go.Oper) : List Nat:=(o.after.toList.filter fun e => Region.binds .any e).map (·.on)
def zaY (gops : Array Go.Oper) (j : Nat) : List Nat:=match gops[j]? with
 | some o => zz7 o
 | none => []
inductive Reach (gops : Array Go.Oper) : Nat → Nat → Prop where
 | edge {j i : Nat} : i ∈ zaY gops j → Reach gops j i
 | more {j k i : Nat} : k ∈ zaY gops j → Reach gops k i → Reach gops j i
def lo (gops : Array Go.Oper) (xs : List Oper) (i : Nat) : Option Tmp:=match gops[i]?,xs[i]? with
 | some o,some x => zbE o.dst x.dst
 | _,_ => none
def zjo (gops : Array Go.Oper) (xs : List Oper) (j : Nat) : List (Option Tmp):=(yi j).reverse.map (lo gops xs)
def zEF (gops : Array Go.Oper) (xs : List Oper) (j i : Nat) : Option Tmp:=if (zaY gops j).contains i then lo gops xs i else none
def zgo (gops : Array Go.Oper) (xs : List Oper) (j : Nat) : List (Option Tmp):=(yi j).reverse.map (zEF gops xs j)
theorem zl9 {α : Type} (f : Nat → α) {j d : Nat} (h : d < j) : ((yi j).reverse.map f)[d]? = some (f (j - 1 - d)):=by
 rw [List.getElem?_map,List.getElem?_reverse (by simpa using h),List.length_range,yv (by omega)];rfl
section
variable {P : Program} {κ : List Tmp} {nt : Nat} {gops : Array Go.Oper} {xs : List Oper}
theorem znT {Cf : zaz} : ∀ (xs : List Oper) (r r1 : R),steps Cf xs r = some r1 → ∃ rr : Nat → R,rr 0 = r ∧ rr xs.length = r1 ∧ ∀ i x,xs[i]? = some x → step Cf (rr i) x = some (rr (i + 1))
 | [],r,r1,h => by
   simp only [steps,Option.some.injEq] at h;exact ⟨fun _ => r,rfl,h,fun i x h => by simp at h⟩
 | x :: xs,r,r1,h => by
   simp only [steps,ya] at h;obtain ⟨e,b,g⟩:=h;obtain ⟨rr,c,f,d⟩:=znT xs e r1 g
   refine ⟨fun i => match i with
    | 0 => r
    | i + 1 => rr i,rfl,f,fun i y a => ?_⟩
   cases i with
   | zero =>
     simp at a;subst a;simp only [c];exact b
   | succ i => exact d i y (by simpa using a)
structure Mid (gops : Array Go.Oper) (xs : List Oper) (κ : List Tmp) (nt p : Nat) (envD : (Nat → Bool) → List V) (v : Nat → V) (σD : (Nat → Bool) → zd) (g0 : G) (w0 : World) (σ0 : zd) (D : Nat → Bool) (g : G) (w : World) (a : Act) : Prop where
 ext : Ext g0 w0 σ0 g w (σD D)
 rel : Rel g w (σD D)
 size : a.tmps.size = nt
 df : a.defers = []
 slot : ∀ (i : Nat) (t : Tmp),κ[i]? = some t → zh g w (σD D) ((envD D).getD i vun) (a.tmps.getD t undef)
 done : ∀ i t,i < p → D i = true → lo gops xs i = some t → zh g w (σD D) (v i) (a.tmps.getD t undef)
def zbN (D : Nat → Bool) (j : Nat) : Nat → Bool:=fun i => if i = j then true else D i
def Dof (listed : Array Bool) : Nat → Bool:=fun i => listed.getD i false
structure Plan (P : Program) (κ : List Tmp) (nt : Nat) (gops : Array Go.Oper) (xs : List Oper) (p : Nat) : Prop where
 len : xs.length = gops.size
 p_le : p ≤ gops.size
 back : ∀ j o,gops[j]? = some o → ∀ i ∈ zz7 o,i < j
 pre : ∀ j o x,j < p → gops[j]? = some o → xs[j]? = some x → okD κ nt o.dst x.dst = true
 apart : ∀ i j t,i < p → j < p → lo gops xs i = some t → lo gops xs j = some t → i = j
 tail : ∀ j o x,p ≤ j → gops[j]? = some o → xs[j]? = some x → okD κ nt o.dst x.dst = true ∧ zg6 κ (zjo gops xs j) gops o.guard x.guard = true ∧ zom P κ (zjo gops xs j) o x.dst x.op = true ∧ ∀ i,i < j → Reach gops j i
variable {p b l : Nat} {envD : (Nat → Bool) → List V} {v : Nat → V} {σD : (Nat → Bool) → zd} {g0 : G} {w0 : World} {σ0 : zd} {rr : Nat → R}
def zi0 (gops : Array Go.Oper) (D : Nat → Bool) : Prop:=∀ j,D j = true → ∀ i ∈ zaY gops j,D i = true
theorem zbw {D : Nat → Bool} (b : zi0 gops D) {j i : Nat} (h : Reach gops j i) : (∀ i ∈ zaY gops j,D i = true) → D i = true:=by
 induction h with
 | edge h => exact fun a => a _ h
 | more h _ ih => exact fun a => ih fun i c => b _ (a _ h) i c
theorem zmp {a : Array Bool} (k : a.size = gops.size) {j : Nat} : j ∈ Region.ready .any gops a ↔ (∃ o,gops[j]? = some o) ∧ Dof a j = false ∧ ∀ i ∈ zaY gops j,Dof a i = true:=by
 rw [mem_ready];constructor
 ·rintro ⟨c,o,b,h⟩
  have f : j < gops.size:=(yg.1 b).1;refine ⟨⟨o,b⟩,?_,fun i d => ?_⟩
  ·unfold Dof
   rw [ye,yf (by omega)] at c ⊢;exact c
  ·unfold zaY at d
   rw [b] at d;unfold zz7 at d;rw [yD] at d;obtain ⟨e,he,rfl⟩:=d;rw [yz] at he;exact h e (by simpa using he.1) he.2
 ·rintro ⟨⟨o,b⟩,c,h⟩
  have f : j < gops.size:=(yg.1 b).1;refine ⟨?_,o,b,fun e he g => h e.on ?_⟩
  ·unfold Dof at c
   rw [ye,yf (by omega)] at c ⊢;exact c
  ·unfold zaY
   rw [b];unfold zz7;rw [yD];exact ⟨e,by rw [yz]; exact ⟨by simpa using he,g⟩,rfl⟩
theorem zkn {a : Array Bool} (b : a.size = gops.size) {j : Nat} (c : j < gops.size) : Dof (a.setIfInBounds j true) = zbN (Dof a) j:=by
 funext i
 show (a.setIfInBounds j true).getD i false = if i = j then true else a.getD i false
 rw [ye,ye,Array.getElem?_setIfInBounds]
 by_cases h : j = i
 ·subst h
  simp [b,c]
 ·rw [if_neg h,if_neg (fun e => h e.symm)]
theorem zsW {D : Nat → Bool} (c : zi0 gops D) {j : Nat} (d : ∀ i ∈ zaY gops j,D i = true) : zi0 gops (zbN D j):=fun k a i b => by
 unfold zbN at a ⊢;split
 ·rfl
 ·split at a
  ·rename_i e; subst e; exact d i b
  ·exact c k a i b
theorem zlx {a : Array Bool} (g : a.size = gops.size) (k : ∀ j o,gops[j]? = some o → ∀ i ∈ zz7 o,i < j) : ∀ (n : Nat) ,n < gops.size → Dof a n = false → Region.ready .any gops a ≠ []:=by
 intro n
 induction n using yy with
 | _ n ih =>
   intro d hd f
   by_cases h : ∀ i ∈ zaY gops n,Dof a i = true
   ·have : n ∈ Region.ready .any gops a:=(zmp g).2 ⟨⟨gops[n],yf d⟩,hd,h⟩
    rw [f] at this;simp at this
   ·simp only [Classical.not_forall] at h
    obtain ⟨i,e,b⟩:=h
    have c : i < n:=by
     unfold zaY at e;rw [yf d] at e;exact k n _ (yf d) i e
    exact ih i c (by omega) (by simpa using b) f
theorem zwn (pl : Plan P κ nt gops xs p) (hlen : ∀ D,(envD D).length = κ.length) (m : κ.Nodup) (n : ∀ t ∈ κ,t < nt) {D : Nat → Bool} {g : G} {w : World} {a : Act} (M : Mid gops xs κ nt p envD v σD g0 w0 σ0 D g w a) {j : Nat} (B : j ≤ p) {f : Nat → Option Tmp} (q : ∀ i t,i < j → f i = some t → D i = true ∧ lo gops xs i = some t) :
  Fr κ ((yi j).reverse.map f) nt g w ⟨(yi j).reverse.map v,envD D,σD D,b,l⟩ a:=by
 refine ⟨M.size,hlen D,fun i t u => M.slot i t u,fun d t hd _ => ?_,fun d t hd => ?_,m,n,M.df⟩
 ·have e : d < j:=by have:=zb hd; simpa using this
  rw [zl9 f e] at hd;injection hd with hd;obtain ⟨y,c⟩:=q _ t (by omega) hd;simp only [yj,zl9 v e,yw];exact M.done _ t (by omega) y c
 ·have e : d < j:=by have:=zb hd; simpa using this
  rw [zl9 f e] at hd;injection hd with hd;obtain ⟨_,c⟩:=q _ t (by omega) hd;unfold lo at c;split at c
  ·rename_i o x s z
   have r:=pl.pre _ o x (by omega) s z;unfold zbE at c;split at c
   ·rename_i A h k
    injection c with c;subst c;have:=r;rw [h,k] at this;simp only [okD,yc,yn] at this;simpa using this.1
   ·cases c
  ·cases c
def left (D : Nat → Bool) (l : List Nat) : Nat:=(l.filter fun i => !D i).length
theorem zCy (D : Nat → Bool) (j : Nat) : ∀ l : List Nat,left (zbN D j) l ≤ left D l
 | [] => yp _
 | x :: l => by
   have a:=zCy D j l;unfold left at a ⊢;simp only [yr]
   by_cases b : x = j
   ·subst b
    cases D x <;> simp [zbN] at a ⊢ <;> omega
   ·have : zbN D j x = D x:=by simp [zbN,b]
    rw [this];cases D x <;> simp at a ⊢ <;> omega
theorem zyg (D : Nat → Bool) (j : Nat) (b : D j = false) : ∀ l : List Nat,j ∈ l → left (zbN D j) l < left D l
 | [],h => by simp at h
 | x :: l,h => by
   have hle:=zCy D j l
   by_cases a : x = j
   ·subst a
    unfold left at hle ⊢;simp only [yr,b];simp [zbN] at hle ⊢;omega
   ·have c:=zyg D j b l (by simpa [Ne.symm a] using h)
    unfold left at c ⊢;simp only [yr];have : zbN D j x = D x:=(by simp [zbN,a]);rw [this];cases D x <;> simp at c ⊢ <;> omega
theorem zvH {D : Nat → Bool} {n : Nat} (h : left D (yi n) = 0) : ∀ i,i < n → D i = true:=fun i a => by
 have:=yl h;rw [List.filter_eq_nil_iff] at this;simpa using this i (by simpa using a)
variable {Q : Exit → Act → World → Prop} {Cf : zaz}
theorem zxa {m : Nat} {o : Go.Oper} {x : Oper} (b : gops[m]? = some o) (a : xs[m]? = some x) : zjo gops xs (m + 1) = zbE o.dst x.dst :: zjo gops xs m:=by
 unfold zjo;rw [yA,List.reverse_append];simp [lo,b,a]
theorem zut (S : zhU P Cf) (pl : Plan P κ nt gops xs p) (q : ∀ i x,xs[i]? = some x → step Cf (rr i) x = some (rr (i + 1))) (e : ∀ g w a loc,Ext g0 w0 σ0 g w (rr gops.size).st → Rel g w (rr gops.size).st → Fr κ loc nt g w (rr gops.size) a → Q .normal a w) :
  ∀ (fuel m : Nat) (b : Array Bool) (g : G) (w : World) (a : Act),b.size = gops.size → p ≤ m → m ≤ gops.size → (∀ i,Dof b i = decide (i < m)) → gops.size ≤ m + fuel → Ext g0 w0 σ0 g w (rr m).st → Rel g w (rr m).st → Fr κ (zjo gops xs m) nt g w (rr m) a → wpAny P .any gops Q fuel b a w
 | fuel,m,b,g,w,a,hs,hpm,hm,hD,hf,H,R0,F => by
   have d : ∀ j,j ∈ Region.ready .any gops b → j = m ∧ j < gops.size:=fun j A => by
    obtain ⟨⟨o,n⟩,B,z⟩:=(zmp hs).1 A;have c : j < gops.size:=(yg.1 n).1;rw [hD] at B;have O : ¬ j < m:=(by simpa using B);refine ⟨?_,c⟩;have s : xs[j]? = some (xs[j]'(by rw [pl.len]; exact c)):=yh (by rw [pl.len]; exact c);have r:=(pl.tail j o _ (by omega) n s).2.2.2
    have f : zi0 gops (Dof b):=fun k C i t => by
     rw [hD] at C ⊢;have M : k < m:=(by simpa using C);unfold zaY at t;split at t
     ·rename_i D y
      have:=pl.back k D y i t;simp; omega
     ·simp at t
    rcases yx m j with h | h
    ·have:=zbw f (r m h) z
     rw [hD] at this;simp at this
    ·omega
   have fin : Region.ready .any gops b = [] → Q .normal a w:=fun v => by
    have : m = gops.size:=by
     rcases yx m gops.size with h | h
     ·exact absurd v (zlx hs pl.back m h (by rw [hD]; simp))
     ·omega
    subst this;exact e g w a _ H R0 F
   cases fuel with
   | zero =>
     have v : Region.ready .any gops b = []:=by
      cases J : Region.ready .any gops b with
      | nil => rfl
      | cons j l =>
        have:=d j (by rw [J]; simp);omega
     exact ⟨v,fin v⟩
   | succ fuel =>
     refine ⟨fin,fun j A => ?_⟩;obtain ⟨rfl,c⟩:=d j A;have n : gops[j]? = some gops[j]:=yf c;have s : xs[j]? = some (xs[j]'(by rw [pl.len]; exact c)):=yh (by rw [pl.len]; exact c);obtain ⟨z,I,L,_⟩:=pl.tail j _ _ hpm n s
     have key:=zek (Q:=Q) (gops:=gops) (next:=wpAny P .any gops Q fuel (b.setIfInBounds j true)) S R0 F z I L (q j _ s) (fun g' w' u H1 E _ K =>
      zut S pl q e fuel (j + 1) _ g' w' _ (by simpa using hs) (by omega) (by omega) (fun i => by
       rw [zkn hs c];unfold zbN;split
       ·simp; omega
       ·rw [hD]
        rename_i N;simp only [decide_eq_decide]
        omega) (by omega) (H.trans H1) E (by rw [zxa n s]; exact K)) (fun _ h => h)
     unfold wpOp;simp only [n];split
     ·rename_i hw
      rw [if_pos hw] at key;exact .inl key
     ·rename_i hw
      rw [if_neg hw] at key;exact key
termination_by fuel => fuel
def Local (P : Program) (κ : List Tmp) (nt : Nat) (gops : Array Go.Oper) (xs : List Oper) (v : Nat → V) (envD : (Nat → Bool) → List V) (σD : (Nat → Bool) → zd) (p b l : Nat) : Prop :=
 ∀ (j : Nat) (o : Go.Oper) (x : Oper) (D : Nat → Bool) (g : G) (w : World) (a : Act) (next : Act → World → Prop) (Q : Exit → Act → World → Prop),j < p → gops[j]? = some o → xs[j]? = some x → D j = false → (∀ i ∈ zaY gops j,D i = true) → zi0 gops D → (∀ i,p ≤ i → D i = false) → Rel g w (σD D) →
   Fr κ (zgo gops xs j) nt g w ⟨(yi j).reverse.map v,envD D,σD D,b,l⟩ a →
   (∀ g' w' u,Ext g w (σD D) g' w' (σD (zbN D j)) → Rel g' w' (σD (zbN D j)) → Fr κ (zbE o.dst x.dst :: zgo gops xs j) nt g' w' ⟨v j :: (yi j).reverse.map v,envD (zbN D j),σD (zbN D j),b,l⟩ (a.put o.dst u) → next (a.put o.dst u) w') →
   if Region.wanted o (yielded gops a.tmps) then o.wp P a w next Q else next (a.put o.dst undef) w
theorem zsf (pl : Plan P κ nt gops xs p) {i : Nat} {t : Tmp} (f : i < p) (h : lo gops xs i = some t) : t ∉ κ:=by
 unfold lo at h;split at h
 ·rename_i o x e d
  have c:=pl.pre _ o x f e d;unfold zbE at h;split at h
  ·rename_i g a b
   injection h with h;subst h;rw [a,b] at c;simp only [okD,yc,yn] at c;simpa using c.1
  ·cases h
 ·cases h
theorem zxo (S : zhU P Cf) (pl : Plan P κ nt gops xs p) (LS : Local P κ nt gops xs v envD σD p b l) (Y : ∀ i x,xs[i]? = some x → step Cf (rr i) x = some (rr (i + 1)))
  (W : (rr p).rs = (yi p).reverse.map v) (hlen : ∀ D,(envD D).length = κ.length) (L : κ.Nodup) (N : ∀ t ∈ κ,t < nt)
  (B : ∀ D,(∀ i,D i = decide (i < p)) → σD D = (rr p).st ∧ envD D = (rr p).env)
  (I : ∀ g w a loc,Ext g0 w0 σ0 g w (rr gops.size).st → Rel g w (rr gops.size).st → Fr κ loc nt g w (rr gops.size) a → Q .normal a w) :
  ∀ (fuel : Nat) (c : Array Bool) (g : G) (w : World) (a : Act),c.size = gops.size → (∀ i,p ≤ i → Dof c i = false) → zi0 gops (Dof c) → left (Dof c) (yi gops.size) ≤ fuel → Mid gops xs κ nt p envD v σD g0 w0 σ0 (Dof c) g w a → wpAny P .any gops Q fuel c a w
 | fuel,c,g,w,a,hs,hp,hcl,hf,M => by
   by_cases k : ∀ i,i < p → Dof c i = true
   ·have aD : ∀ i,Dof c i = decide (i < p):=fun i => by
     by_cases r : i < p
     ·simp [r,k i r]
     ·simp [r,hp i (by omega)]
    obtain ⟨aC,aJ⟩:=B _ aD;have H:=M.ext;have R0:=M.rel;rw [aC] at H R0;have y:=zwn (b:=b) (l:=l) pl hlen L N M (yp p) (f:=lo gops xs) (fun i t r m => ⟨k i r,m⟩);rw [aC,aJ,← W] at y;have F : Fr κ (zjo gops xs p) nt g w (rr p) a:=⟨y.size,y.len,y.env,y.lc,y.lk,y.nd,y.bd,y.df⟩;refine zut S pl Y I fuel p c g w a hs (yp _) pl.p_le aD ?_ H R0 F
    have A : ∀ n,n ≤ gops.size → n ≤ p + left (Dof c) (yi n):=fun n => by
     induction n with
     | zero => intro _; omega
     | succ n ih =>
       intro hn;have:=ih (by omega);unfold left at this ⊢;rw [yA,List.filter_append,List.length_append]
       by_cases aK : n < p
       ·omega
       ·have O:=hp n (by omega)
        simp [O];omega
    have:=A gops.size (yp _);omega
   ·have s : ∀ j,j ∈ Region.ready .any gops c → j < p ∧ j < gops.size ∧ Dof c j = false ∧ ∀ i ∈ zaY gops j,Dof c i = true:=fun j hj => by
     obtain ⟨⟨o,C⟩,O,R⟩:=(zmp hs).1 hj;have d : j < gops.size:=(yg.1 C).1;refine ⟨?_,d,O,R⟩;rcases yx j p with h | h
     ·exact h
     ·have U : xs[j]? = some (xs[j]'(by rw [pl.len]; exact d)):=yh (by rw [pl.len]; exact d)
      have aB:=(pl.tail j o _ h C U).2.2.2;exact absurd (fun i r => zbw hcl (aB i (by omega)) R) k
    obtain ⟨i0,V⟩:=Classical.not_forall.1 k;obtain ⟨V,aI⟩:=Classical.not_imp.1 V;have aH : Region.ready .any gops c ≠ []:=zlx hs pl.back i0 (by have:=pl.p_le; omega) (by simpa using aI)
    cases fuel with
    | zero =>
      have:=zvH (Nat.le_zero.1 hf) i0 (by have:=pl.p_le; omega);exact absurd this aI
    | succ fuel =>
      refine ⟨fun hr => absurd hr aH,fun j hj => ?_⟩;obtain ⟨z,d,O,R⟩:=s j hj;have C : gops[j]? = some gops[j]:=yf d;have U : xs[j]? = some (xs[j]'(by rw [pl.len]; exact d)):=yh (by rw [pl.len]; exact d);have hd:=pl.pre j _ _ z C U
      have F:=zwn (b:=b) (l:=l) pl hlen L N M (Nat.le_of_lt z) (f:=zEF gops xs j) (fun i t r m => by
       unfold zEF at m;split at m
       ·rename_i hc
        exact ⟨R i (by simpa using hc),m⟩
       ·cases m)
      have key:=LS j _ _ (Dof c) g w a (wpAny P .any gops Q fuel (c.setIfInBounds j true)) Q z C U O R hcl hp M.rel F (fun g' w' u H1 R1 F1 =>
       zxo S pl LS Y W hlen L N B I fuel _ g' w' _ (by simpa using hs) (fun i r => by
        rw [zkn hs d];unfold zbN;split
        ·omega
        ·exact hp i r) (by rw [zkn hs d]; exact zsW hcl R) (by
        rw [zkn hs d];have:=zyg (Dof c) j O (yi gops.size) (by simpa using d)
        omega) (by
        rw [zkn hs d];refine ⟨M.ext.trans H1,R1,F1.size,F1.df,fun i t m => ?_,fun i t r aG m => ?_⟩
        ·exact F1.env i t m
        ·by_cases K : i = j
         ·subst K
          have J : zbE gops[i].dst (xs[i]'(by rw [pl.len]; exact d)).dst = some t:=by
           unfold lo at m;rw [C,U] at m;exact m
          have:=F1.lc 0 t (by simp [J]) (by simp);simpa using this
         ·have Z : Dof c i = true:=by
           unfold zbN at aG
           rwa [if_neg K] at aG
          have hold:=H1.zh _ _ (M.done i t r Z m)
          have aA : (a.put gops[j].dst u).tmps.getD t undef = a.tmps.getD t undef:=by
           cases E : gops[j].dst with
           | none => rfl
           | some t' =>
             have X : t' ≠ t:=fun e => by
              subst e;rw [E] at hd;unfold okD at hd;split at hd
              ·rename_i heq _; cases heq
              ·
               rename_i t2 heq aE;injection heq with heq;subst heq
               have aF : lo gops xs j = some t':=by
                unfold lo;rw [C,U];simp [zbE,E,aE]
               exact K (pl.apart i j t' r z m aF)
              ·
               rename_i t2 q heq aE;injection heq with heq;subst heq;have hk : t' ∈ κ:=List.mem_of_getElem? (by simpa using hd);have J:=zsf pl r m;exact J hk
              ·cases hd
             simp only [Act.put,zjg];rw [if_neg (by simp [X])]
          rw [aA]
          exact hold))
      unfold wpOp;simp only [C];split
      ·rename_i hw
       rw [if_pos hw] at key;exact .inl key
      ·rename_i hw
       rw [if_neg hw] at key;exact key
termination_by fuel => fuel
end
def zHM : Option X → List X
 | some x => [x]
 | none => []
def opX : Op → List X
 | .mv x | .un _ x | .conv _ x | .len x | .fa _ x | .ld _ x | .box _ x | .ext x _ | .fld _ _ x | .nil x | .mks _ _ x | .mkc _ x => [x]
 | .pick c a b => [c,a,b]
 | .cpy _ x y | .bin _ x y | .eqa _ _ x y | .beq _ x y | .ia _ x y | .iaa _ _ x y | .st _ x y | .app _ x y | .lk _ _ x y | .mxn _ x y => [x,y]
 | .al _ _ | .nl _ _ | .mkm | .no _ => []
 | .bld _ parts _ => parts.map fun p => p.2.2
 | .bsl _ _ _ parts => parts.map fun p => p.2
 | .slc _ x lo hi mx => x :: (zHM lo ++ zHM hi ++ zHM mx)
 | .mkf _ first caps => first ++ caps
 | .mu m k v => [m,k,v]
 | .call _ f args => f :: args
def zbt : Op → Nat
 | .mv _ | .pick .. | .bin .. | .eqa .. | .beq .. | .un .. | .conv .. | .len _ | .fa .. | .iaa .. | .ext .. | .fld .. | .nil _ | .mkf .. | .mxn .. => 0
 | .bsl .fz _ _ _ => 0
 | .nl .fz _ => 0
 | .bld _ _ [] => 0
 | .ia .. | .slc .. => 1
 | .ld .. | .lk .. => 2
 | .call .cl _ _ => 2
 | .st .. => 3
 | .al .. | .box .. | .mks .. | .mkc .. | .mkm | .nl .. | .bsl .. | .bld .. => 4
 | _ => 5
section
variable {Cf : zaz} {r r' r1 : R} {d : D}
theorem ztq {x : Option V} {r1 : R} (h : x.map (r.put d) = some r1) : ∃ v,x = some v ∧ r1 = r.put d v:=by
 rw [yb] at h;obtain ⟨v,a,b⟩:=h;exact ⟨v,a,b.symm⟩
theorem zro {a : Nat} {x : Option X} (h : ∀ y ∈ zHM x,r'.get y = r.get y) : bound r' a x = bound r a x:=by
 cases x with
 | none => rfl
 | some y => simp [bound,h y (by simp [zHM])]
theorem znP : ∀ {a : List (Nat × Nat × X)} {cs : List C},(∀ y ∈ a.map (fun p => p.2.2),r'.get y = r.get y) → zoU r' a cs = zoU r a cs
 | [],_,_ => rfl
 | (off,sz,x) :: a,cs,h => by
   simp only [zoU,h x (by simp)]
   congr 1
   exact congrArg _ (funext fun c => znP fun y b => h y (by simp at b ⊢; exact .inr b))
theorem znu {sz : Nat} : ∀ {a : List (Nat × X)} {cs : List (List C)},(∀ y ∈ a.map (fun p => p.2),r'.get y = r.get y) → zqj r' sz a cs = zqj r sz a cs
 | [],_,_ => rfl
 | (i,x) :: a,cs,h => by
   simp only [zqj,h x (by simp)]
   congr 1
   exact znu fun y b => h y (by simp at b ⊢; exact .inr b)
theorem zjY : ∀ {ys : List X},(∀ y ∈ ys,r'.get y = r.get y) → r'.gets ys = r.gets ys
 | [],_ => rfl
 | y :: ys,h => by
   have b:=zjY (ys:=ys) fun z a => h z (yu _ a);simp only [R.gets,h y (by simp),b]
structure Same (n : Nat) (σ σ' : zd) : Prop where
 get : ∀ id o,id < n → σ[id]? = some o → σ'[id]? = some o
structure SameRow (n : Nat) (σ σ' : zd) : Prop where
 row : ∀ id ver sz o,id < n → σ[id]? = some o → o.isRow ver sz = true → ∃ o',σ'[id]? = some o' ∧ o'.isRow ver sz = true
theorem Same.rows {n : Nat} {σ σ' : zd} (h : Same n σ σ') : SameRow n σ σ':=⟨fun id d sz o a b c => ⟨o,h.get id o a b,c⟩⟩
theorem zC2 {n : Nat} {σ σ' : zd} (h : Same n σ σ') {v v' : V} (d : v.lt n = true) (a : zIz σ v = some v') : zIz σ' v = some v':=by
 unfold zIz at a ⊢;split at a
 ·rename_i id f lo m
  have c : id < n:=by simpa [V.lt,C.lt] using d
  rw [yb] at a ⊢;obtain ⟨xs,b,g⟩:=a;rw [ya] at b;obtain ⟨o,b,e⟩:=b;exact ⟨xs,by rw [ya]; exact ⟨o,h.get id o c b,e⟩,g⟩
 all_goals exact a
theorem zs9 {n : Nat} {σ σ' : zd} (h : Same n σ σ') : ∀ {vs a : List V},V.lts n vs = true → zsv σ vs = some a → zsv σ' vs = some a
 | [],_,_,hv => hv
 | v :: vs,a,hl,hv => by
   simp only [V.lts,yc] at hl;simp only [zsv] at hv ⊢;obtain ⟨y,z,b,c,rfl⟩:=zhb hv;rw [zC2 h hl.1 b,zs9 h hl.2 c];rfl
theorem zps {n : Nat} : ∀ {a b : List V},V.lts n (a ++ b) = (V.lts n a && V.lts n b)
 | [],b => by simp [V.lts]
 | v :: a,b => by simp [V.lts,zps (a:=a),Bool.and_assoc]
theorem zxU {n : Nat} : ∀ {cs : List C},V.lts n (cs.map V.one) = C.lts n cs
 | [] => rfl
 | c :: cs => by simp [V.lts,V.lt,C.lts,zxU (cs:=cs)]
theorem zyN {n : Nat} : ∀ {ys : List X},(∀ y ∈ ys,(r.get y).lt n = true) → V.lts n (r.gets ys) = true
 | [],_ => rfl
 | y :: ys,h => by
   have b:=zyN (ys:=ys) fun z a => h z (yu _ a);simp [R.gets,V.lts,h y (by simp),b]
theorem zo0 {op : Op} {n : Nat} (D : zbt op ≤ 2) (l : ∀ x ∈ opX op,r'.get x = r.get x) (G : ∀ x ∈ opX op,(r.get x).lt n = true) (Q : zbt op = 1 → SameRow n r.st r'.st) (N : zbt op = 2 → Same n r.st r'.st) (h : zbM Cf r d op = some r1) :
  ∃ v,r1 = r.put d v ∧ zbM Cf r' d op = some (r'.put d v):=by
 have one : ∀ {x : Option V},x.map (r.put d) = some r1 → ∀ {y : Option V},(∀ v,x = some v → y = some v) → ∃ v,r1 = r.put d v ∧ y.map (r'.put d) = some (r'.put d v):=fun {x} hx {y} B => by
  obtain ⟨v,e1,e2⟩:=ztq hx;exact ⟨v,e2,by rw [B v e1]; rfl⟩
 cases op <;> simp only [zbM] at h ⊢ <;> simp only [opX,List.mem_cons,List.not_mem_nil,or_false,forall_eq_or_imp,forall_eq] at l G
 case mv x => injection h with h; exact ⟨_,h.symm,by rw [l]⟩
 case pick c x y => rw [l.1,l.2.1,l.2.2]; exact one h fun _ e => e
 case bin o x y => rw [l.1,l.2]; exact one h fun _ e => e
 case beq neg x y => rw [l.1,l.2]; exact one h fun _ e => e
 case eqa n neg x y => rw [l.1,l.2]; exact one h fun _ e => e
 case un o x => rw [l]; exact one h fun _ e => e
 case conv k x => rw [l]; exact one h fun _ e => e
 case len x => rw [l]; exact one h fun _ e => e
 case fa off x => rw [l]; exact one h fun _ e => e
 case iaa n' sz x i => rw [l.1,l.2]; exact one h fun _ e => e
 case ext x i => rw [l]; exact one h fun _ e => e
 case fld off sz x => rw [l]; exact one h fun _ e => e
 case nil x => rw [l]; exact one h fun _ e => e
 case mxn b x y => rw [l.1,l.2]; exact one h fun _ e => e
 case mkf f first E =>
  injection h with h;rw [zjY (r:=r) (r':=r') fun y B => l y (yk _ B),zjY (r:=r) (r':=r') fun y B => l y (yt _ B)];exact ⟨_,h.symm,rfl⟩
 case ia sz x i =>
  rw [l.1,l.2];refine one h fun v e => ?_;have z:=Q rfl;unfold aia at e ⊢;split at e
  ·rename_i id t lo m U q heq _
   split at e
   ·rename_i H
    rw [if_pos H];rw [ya] at e ⊢;obtain ⟨o,e1,e2⟩:=e;unfold zwt at e2;split at e2
    ·rename_i S
     have u : id < n:=by
      have:=G.1;rw [heq] at this;simpa [V.lt,C.lt] using this
     obtain ⟨P,s,p⟩:=z.row id t sz o u e1 S;exact ⟨P,s,by unfold zwt; rw [if_pos p]; exact e2⟩
    ·cases e2
   ·cases e
  all_goals exact e
 case slc sz x lo hi mx =>
  have z:=Q rfl;have e1:=l.1
  have hm : zGS r' hi mx = zGS r hi mx:=by
   cases mx with
   | none => rfl
   | some m => cases hi with
     | none => rfl
     | some hh =>
       have s:=l.2 m (by simp [zHM]);have p:=l.2 hh (by simp [zHM]);simp only [zGS,s,p]
  by_cases D : zGS r hi mx = true
  case neg => rw [if_neg D] at h; cases h
  rw [if_pos D] at h;rw [if_pos (hm.trans D)];refine one h fun v e => ?_;have b1 : ∀ d,bound r' d lo = bound r d lo:=fun d => zro fun y B => l.2 y (yk _ (yk _ B));have b2 : ∀ d,bound r' d hi = bound r d hi:=fun d => zro fun y B => l.2 y (yk _ (yt _ B));rw [e1];unfold zJ3 at e ⊢;split at e
  ·rw [b1,b2]; exact e
  ·rw [b1,b2]; exact e
  ·rename_i id t W m heq
   rw [b1,b2];split at e
   ·cases e
   ·rename_i M
    rw [if_neg M];obtain ⟨a,b,s,p,w⟩:=zqG e;rw [s,p]
    show zBG r'.st sz id t W m a b = some v
    unfold zBG at w ⊢;split at w
    ·rename_i H
     have u : id < n:=by
      have:=G.1;rw [heq] at this;simpa [V.lt,C.lt] using this
     have I : (r'.st[id]?).any (Ob.isRow t sz) = true:=by
      have:=H.2.2
      cases L : r.st[id]? with
      | none => simp [L] at this
      | some o =>
        simp [L] at this;obtain ⟨P,A,X⟩:=z.row id t sz o u L this;simp [A,X]
     rw [if_pos ⟨H.1,H.2.1,I⟩];exact w
    ·cases w
  ·cases e
 case ld sz x =>
  have J:=N rfl;rw [l];refine one h fun v e => ?_
  have key : ∀ {id t i : Nat} {el : List C},id < n → r.st.elem id t i = some el → r'.st.elem id t i = some el:=fun {id t i el} u he => by
   unfold zd.elem at he ⊢;rw [ya] at he ⊢;obtain ⟨o,s,p⟩:=he;exact ⟨o,J.get id o u s,p⟩
  unfold ald at e ⊢;split at e
  ·rename_i id t i off heq
   have u : id < n:=by
    have:=G;rw [heq] at this;simpa [V.lt,C.lt] using this
   rw [yb] at e ⊢;obtain ⟨c,s,p⟩:=e;unfold zd.cell at s ⊢;rw [ya] at s;obtain ⟨el,w,A⟩:=s;exact ⟨c,by rw [ya]; exact ⟨el,key u w,A⟩,p⟩
  ·exact e
  ·rename_i m id t i off heq
   have u : id < n:=by
    have:=G;rw [heq] at this;simpa [V.lt,C.lt] using this
   rw [yb] at e ⊢;obtain ⟨c,s,p⟩:=e;rw [ya] at s;obtain ⟨el,w,A⟩:=s;exact ⟨c,by rw [ya]; exact ⟨el,key u w,A⟩,p⟩
  ·exact e
  ·cases e
 case lk zero ok m k =>
  have J:=N rfl;rw [l.1,l.2];refine one h fun v e => ?_;unfold alk at e ⊢;split at e
  ·rename_i id U heq _
   have u : id < n:=by
    have:=G.1;rw [heq] at this;simpa [V.lt,C.lt] using this
   rw [yb] at e ⊢;obtain ⟨es,s,p⟩:=e;rw [ya] at s;obtain ⟨o,w,A⟩:=s;exact ⟨es,by rw [ya]; exact ⟨o,J.get id o u w,A⟩,p⟩
  ·exact e
  ·cases e
 case call m f args =>
  cases m
  case cl =>
   have J:=N rfl;have e1:=l.1;have e2:=zjY (r:=r) (r':=r') (ys:=args) l.2;rw [e1,e2];unfold zqh at h ⊢;split at h
   ·rename_i g first E heq
    simp only at h ⊢;rw [ya] at h;obtain ⟨x,s,p⟩:=h;rw [ya] at s;obtain ⟨aS,w,A⟩:=s
    have O : V.lts n (first.map V.one ++ (r.gets args ++ E.map V.one)) = true:=by
     have K:=G.1;rw [heq] at K;simp only [V.lt,C.lt,yc] at K;rw [zps,zps,zxU,zxU,zyN G.2,K.1,K.2];rfl
    rw [zs9 J O w];simp only [ym,A];unfold zzE at p ⊢;split at p
    ·rename_i H
     injection p with p;exact ⟨_,p.symm,by rw [if_pos H]⟩
    ·cases p
   ·cases h
  all_goals (simp only [zbt] at D; omega)
 case bsl b sz zero parts =>
  cases b <;> simp only [zbt] at D
  case fz =>
   rw [znu (r:=r) (r':=r') l];rw [ya] at h;obtain ⟨es,s,p⟩:=h;simp only [zyU,yb] at p;obtain ⟨xs,p,w⟩:=p;exact ⟨vsl xs,w.symm,by rw [s]; simp only [ym,zyU,p,Option.map_some,zIn]⟩
  all_goals omega
 case nl b sz =>
  cases b <;> simp only [zbt] at D
  case fz =>
   simp only [anl,Option.some.injEq] at h ⊢;exact ⟨_,h.symm,rfl⟩
  all_goals omega
 case bld zero parts fresh =>
  cases fresh with
  | nil =>
    rw [znP (r:=r) (r':=r') l];rw [yb] at h;obtain ⟨cs,s,p⟩:=h;simp only [zht] at s ⊢;refine ⟨.agg cs,?_,by rw [s]; simp [zI4,tokens,R.allocs]⟩;rw [← p];simp [zI4,tokens,R.allocs]
  | cons j js => simp only [zbt] at D; omega
 all_goals (simp only [zbt] at D; omega)
end
end Go.A
