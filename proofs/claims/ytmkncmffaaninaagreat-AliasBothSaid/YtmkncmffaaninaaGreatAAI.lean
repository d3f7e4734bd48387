/- A part of the proof of AliasBoth. Conditions: none. -/
import Derived.Test.YtmkncmffaaninaaGreatAAH
import Derived.Scope
set_option linter.all false
open Option renaming map_eq_some_iff → ya,bind_eq_some_iff → yb,bind_some → yk,getD_some → yl
open Bool renaming false_eq_true → yc,and_eq_true → yd
open Array renaming getD_eq_getD_getElem? → ye,getElem?_eq_some_iff → yg,replicate → yn
open List renaming getD_eq_getElem?_getD → yf,getElem?_eq_getElem → yh,replicate → yi,length_cons → yj,mapM_cons → ym,range' → yo,range → yp
namespace Go.A
def zdS (κ : List Tmp) (loc : List (Option Tmp)) (gops : Array Go.Oper) : Option (Nat × Bool) → Option (X × Bool) → Bool
 | none,none => true
 | some (j,b),some (x,b') => (b == b') && (match (gops[j]?).bind (·.dst) with
   | some t => okX κ loc (.tmp t) x
   | none => false)
 | _,_ => false
def zhj (P : Program) (κ : List Tmp) (nt : Nat) (gops : Array Go.Oper) : List (Option Tmp) → List Go.Oper → List Oper → Bool
 | _,[],[] => true
 | loc,o :: os,x :: xs => okD κ nt o.dst x.dst && zdS κ loc gops o.guard x.guard && zkj P κ loc o x.dst x.op && zhj P κ nt gops (zaH o.dst x.dst :: loc) os xs
 | _,_,_ => false
section
variable {P : Program} {κ : List Tmp} {loc : List (Option Tmp)} {nt : Nat} {g : G} {w : World} {r r' : R} {a : Act} {o : Go.Oper} {d : D} {next : Act → World → Prop} {Q : Exit → Act → World → Prop}
theorem zoI (F : Fr κ loc nt g w r a) {gops : Array Go.Oper} {b : Option (Nat × Bool)} {c : Option (X × Bool)} (h : zdS κ loc gops b c = true) : (c = none → b = none):=by
 unfold zdS at h;split at h
 ·exact fun _ => rfl
 ·intro h; cases h
 ·cases h
theorem zuV {gops : Array Go.Oper} {j : Nat} {t : Tmp} {b : Bool} (h : (gops[j]?).bind (·.dst) = some t) (c : a.tmps.getD t undef = .bool b) : yielded gops a.tmps j = some b:=by
 unfold yielded;rw [h];simp only [yk]
 cases d : a.tmps[t]? with
 | none => rw [ye,d] at c; cases c
 | some v =>
   rw [ye,d] at c;simp only [yl] at c;rw [c]
theorem zcc {s : zL} (S : zen P s) (m : Rel g w r.st) (F : Fr κ loc nt g w r a) {gops : Array Go.Oper} {x : Oper} (hd : okD κ nt o.dst x.dst = true) (e : zdS κ loc gops o.guard x.guard = true) (q : zkj P κ loc o x.dst x.op = true) {r1 : R} (h : step s r x = some r1)
  (k : znO κ (zaH o.dst x.dst :: loc) nt g w r r1 (a.put o.dst) next) (H : ∀ a',next a' w → next a' w) :
  if Region.wanted o (yielded gops a.tmps) then o.wp P a w next Q else next (a.put o.dst undef) w:=by
 obtain ⟨d,op,D⟩:=x;simp only at hd e q
 cases D with
 | none =>
   have:=zoI F e rfl;simp only [Region.wanted,this,if_true];exact ztL S m ⟨trivial⟩ F hd q h k
 | some p =>
   obtain ⟨y,b⟩:=p;unfold zdS at e;split at e
   ·rename_i heq; cases heq
   ·rename_i j z I E l heq
    injection heq with heq;injection heq with heq1 heq2;subst heq1 heq2;simp only [yd,beq_iff_eq] at e;obtain ⟨rfl,e⟩:=e;split at e
    ·rename_i t A
     have i:=F.get e;simp only [step] at h;unfold zlf at h;split at h
     ·rename_i tb c
      rw [c] at i;obtain ⟨C,_⟩:=zH i;have n:=zuV (gops:=gops) A C;simp only [Region.wanted,l,n];split at h
      ·rename_i f
       subst f;simp only [beq_self_eq_true,if_true];exact ztL S m ⟨trivial⟩ F hd q h k
      ·rename_i f
       injection h with h;subst h;have : (some tb == some z) = false:=(by simpa using f);rw [this];simp only [yc,if_false];refine k g w _ ?_ ?_ ⟨trivial⟩ (F.put hd fun _ => by simp only [ze]; exact ⟨#[],rfl,by simp only [zv]⟩)
       ·rw [zcX]; exact Ext.refl _ _ _
       ·rw [zcX]; exact m
     ·rename_i c
      rw [c] at i;injection h with h;subst h
      have hu : a.tmps.getD t undef = .tuple #[]:=by
       simp only [ze,zv] at i;obtain ⟨us,u,B⟩:=i;have : us = #[]:=(by cases us; simpa using B);rw [this] at u;exact u
      have n : yielded gops a.tmps j = none:=by
       unfold yielded;rw [A];simp only [yk]
       cases G : a.tmps[t]? with
       | none => rfl
       | some v =>
         rw [ye,G] at hu;simp only [yl] at hu;rw [hu]
      simp only [Region.wanted,l,n];have : (none == some z) = false:=rfl;rw [this];simp only [yc,if_false];refine k g w _ ?_ ?_ ⟨trivial⟩ (F.put hd fun _ => by simp only [ze]; exact ⟨#[],rfl,by simp only [zv]⟩)
      ·rw [zcX]; exact Ext.refl _ _ _
      ·rw [zcX]; exact m
     ·cases h
    ·cases e
   ·cases e
theorem zqO {d : zL} (S : zen P d) {gops : Array Go.Oper} : ∀ (os : List Go.Oper) (xs : List Oper) (i : Nat) {loc : List (Option Tmp)} {g : G} {w : World} {r : R} {a : Act} {r1 : R},(∀ j,os[j]? = gops[i + j]?) → zhj P κ nt gops loc os xs = true → steps d xs r = some r1 → Rel g w r.st → Fr κ loc nt g w r a →
  (∀ g' w' a' loc',Ext g w r.st g' w' r1.st → Rel g' w' r1.st → Fr κ loc' nt g' w' r1 a' → Q .normal a' w') → wpOps P gops Q (yo i os.length) a w
 | [],[],i,loc,g,w,r,a,r1,_,_,h,R0,F,k => by
   simp only [steps,Option.some.injEq] at h;subst h;exact k g w a loc (Ext.refl _ _ _) R0 F
 | o :: os,x :: xs,i,loc,g,w,r,a,r1,hi,hc,h,R0,F,k => by
   simp only [zhj,yd] at hc;obtain ⟨⟨⟨q,e⟩,l⟩,y⟩:=hc;simp only [steps,yb] at h;obtain ⟨A,s,z⟩:=h;have c : gops[i]? = some o:=(by simpa using (hi 0).symm);rw [yj,List.range'_succ]
   have key:=zcc (Q:=Q) (gops:=gops) (next:=wpOps P gops Q (yo (i + 1) os.length)) S R0 F q e l s (fun g' w' a' H u _ m =>
    zqO S os xs (i + 1) (fun j => by
     have:=hi (j + 1);rw [show i + (j + 1) = i + 1 + j from by omega] at this;rw [← this]
     simp) y z u m fun f p a2 b t n v => k f p a2 b (H.trans t) n v) (fun _ h => h)
   simp only [wpOps,c];split
   ·rename_i hw
    rw [if_pos hw] at key;exact .inl key
   ·rename_i hw
    rw [if_neg hw] at key;exact key
 | [],_ :: _,_,_,_,_,_,_,_,_,hc,_,_,_,_ => by simp [zhj] at hc
 | _ :: _,[],_,_,_,_,_,_,_,_,hc,_,_,_,_ => by simp [zhj] at hc
structure At' (g0 : G) (w0 : World) (σ0 : zb) (κ : List Tmp) (nt : Nat) (g : G) (w : World) (s : St) (a : Act) : Prop where
 ext : Ext g0 w0 σ0 g w s.st
 rel : Rel g w s.st
 fr : Fr κ [] nt g w ⟨[],s.env,s.st,s.base,s.lim⟩ a
theorem Fr.bare {rs : List V} {env : List V} {st : zb} {b l c e : Nat} (F : Fr κ loc nt g w ⟨rs,env,st,b,l⟩ a) : Fr κ [] nt g w ⟨[],env,st,c,e⟩ a :=
 ⟨F.size,F.len,F.env,fun d t h => by simp at h,fun d t h => by simp at h,F.nd,F.bd,F.df⟩
theorem zk0 : ∀ {bs : List Bool} {vs : List V},bs.length = vs.length → (clr bs vs).length = vs.length
 | [],[],_ => rfl
 | true :: bs,v :: vs,h => by simp only [clr,yj]; rw [zk0 (by simpa using h)]
 | false :: bs,v :: vs,h => by simp only [clr,yj]; rw [zk0 (by simpa using h)]
 | [],_ :: _,h => by simp at h
 | _ :: _,[],h => by simp at h
theorem zsD : ∀ {bs : List Bool} {vs : List V} {i : Nat},(clr bs vs).getD i vun = vs.getD i vun ∨ (clr bs vs).getD i vun = vun
 | [],vs,i => .inr (by simp [clr])
 | true :: bs,[],i => .inr (by simp [clr])
 | false :: bs,[],i => .inr (by simp [clr])
 | true :: bs,v :: vs,0 => .inl (by simp [clr])
 | false :: bs,v :: vs,0 => .inr (by simp [clr])
 | true :: bs,v :: vs,i + 1 => by simpa [clr] using zsD (bs:=bs) (vs:=vs) (i:=i)
 | false :: bs,v :: vs,i + 1 => by simpa [clr] using zsD (bs:=bs) (vs:=vs) (i:=i)
theorem Fr.clr {env : List V} {st : zb} {b l : Nat} {bs : List Bool} (F : Fr κ [] nt g w ⟨[],env,st,b,l⟩ a) (c : bs.length = κ.length) : Fr κ [] nt g w ⟨[],Go.A.clr bs env,st,b,l⟩ a :=
 ⟨F.size,by
  have:=F.len;simp only at this
  show (Go.A.clr bs env).length = _
  rw [zk0 (by rw [c]; exact this.symm)]
  exact this,fun i t h => by
  have:=F.env i t h;simp only at this ⊢;rcases zsD (bs:=bs) (vs:=env) (i:=i) with e | e
  ·rw [e]; exact this
  ·rw [e]; simp only [vun,ze,zq],fun d t h => by simp at h,fun d t h => by simp at h,F.nd,F.bd,F.df⟩
theorem ztH {n : Nat} : ∀ {vs : List V} {i : Nat},V.lts n vs = true → (vs.getD i vun).lt n = true
 | [],i,_ => by simp [vun,V.lt,C.lt]
 | v :: vs,0,h => by
   simp only [V.lts,yd] at h;simpa using h.1
 | v :: vs,i + 1,h => by
   simp only [V.lts,yd] at h;simpa using ztH (vs:=vs) (i:=i) h.2
theorem zma {g0 : G} {w0 : World} {σ0 : zb} {s f : St} {live : List Bool} {b : Nat} (k : Clean g0 σ0.length) (m : σ0.length ≤ s.base) (j : live.length = κ.length) (h : s.clear live b = some f) (A : At' g0 w0 σ0 κ nt g w s a) : ∃ g',At' g0 w0 σ0 κ nt g' w f a:=by
 unfold St.clear at h;rw [ya] at h;obtain ⟨σ',h,rfl⟩:=h;have e:=A.fr.clr (bs:=live) j;unfold zkk at h;split at h
 ·injection h with h
  subst h;exact ⟨g,A.ext,A.rel,e⟩
 ·split at h
  ·rename_i c
   injection h with h;subst h;simp only [yd] at c;refine ⟨g.drop (s.base + b) w,ztC A.ext k (by omega),ztP A.rel c.2,⟨e.size,e.len,fun i t l => ?_,fun d t h => by simp at h,fun d t h => by simp at h,e.nd,e.bd,e.df⟩⟩;exact zhT _ _ (e.env i t l) (ztH c.1)
  ·cases h
end
theorem zgc {s b : St} {live : List Bool} {a : Nat} (h : s.clear live a = some b) : b.base = s.base ∧ b.lim = s.lim:=by
 unfold St.clear at h;rw [ya] at h;obtain ⟨σ',_,rfl⟩:=h;exact ⟨rfl,rfl⟩
theorem zvT {sp : Spec} {s s1 : St} (h : zrn sp s = some s1) : s1.base = s.base ∧ s1.lim = s.lim:=by
 unfold zrn at h;rw [yb] at h;obtain ⟨r,_,h⟩:=h;unfold zto at h;split at h
 ·split at h
  ·cases h
  ·simp only [yb,ya] at h
   obtain ⟨es,_,ds,_,a,_,h⟩:=h;subst h;exact ⟨rfl,rfl⟩
 ·cases h
theorem zb8 (T : Nat → Option Entry) : ∀ (n : Nat) (c : Code) (s : St) (e : Ex) (j : St),zG T n c s = some (e,j) → j.base = s.base ∧ j.lim = s.lim
 | 0,_,_,_,_,h => by simp [zG] at h
 | n + 1,c,s,e,j,h => by
   have g:=zb8 T n;cases c <;> simp only [zG] at h
   case skip => injection h with h; injection h with f d; subst d; exact ⟨rfl,rfl⟩
   case label => injection h with h; injection h with f d; subst d; exact ⟨rfl,rfl⟩
   case ret => injection h with h; injection h with f d; subst d; exact ⟨rfl,rfl⟩
   case reg ops =>
    rw [ya] at h;obtain ⟨r,_,h⟩:=h;injection h with f d;subst d;exact ⟨rfl,rfl⟩
   case regd ps ops =>
    rw [ya] at h;obtain ⟨r,_,h⟩:=h;injection h with f d;subst d;exact ⟨rfl,rfl⟩
   case spec sp =>
    rw [ya] at h;obtain ⟨s1,f,h⟩:=h;injection h with _ d;subst d;exact zvT f
   case exit id live objs =>
    rw [ya] at h;obtain ⟨s1,f,h⟩:=h;injection h with _ d;subst d;exact zgc f
   case goto id live objs =>
    rw [ya] at h;obtain ⟨s1,f,h⟩:=h;injection h with _ d;subst d;exact zgc f
   case seq a b =>
    rw [yb] at h;obtain ⟨⟨i,s1⟩,f,d⟩:=h;have i1:=g a s i s1 f;cases i <;> simp only [zqm] at d
    case normal => have i2:=g b s1 e j d; exact ⟨i2.1.trans i1.1,i2.2.trans i1.2⟩
    all_goals
     injection d with d;injection d with _ d;subst d;exact i1
   case cond x a b =>
    unfold zpR at h;split at h
    ·split at h
     ·exact g _ _ _ _ h
     ·exact g _ _ _ _ h
    ·cases h
   case block id body =>
    rw [ya] at h;obtain ⟨⟨i,s1⟩,f,d⟩:=h;have i1:=g _ _ _ _ f;unfold zqu at d;split at d
    ·rename_i heq
     injection heq with q1 q2;subst q2;split at d <;> (injection d with _ d; subst d; exact i1)
    ·injection d with _ d
     subst d;exact i1
   case loop live objs body =>
    rw [yb] at h;obtain ⟨⟨i,s1⟩,f,d⟩:=h;have i1:=g _ _ _ _ f;cases i <;> simp only [zm5] at d
    case normal =>
     rw [yb] at d;obtain ⟨s2,d,k⟩:=d;have i2:=zgc d;have i3:=g _ _ _ _ k;exact ⟨i3.1.trans (i2.1.trans i1.1),i3.2.trans (i2.2.trans i1.2)⟩
    all_goals
     injection d with d;injection d with _ d;subst d;exact i1
   case scope body => exact g _ _ _ _ h
   case sc body cur =>
    rw [yb] at h;obtain ⟨⟨i,s1⟩,f,d⟩:=h;have i1:=g _ _ _ _ f;unfold scK at d;split at d
    ·rename_i heq
     injection heq with q1 q2;subst q2;split at d
     ·have i2:=g _ _ _ _ d; exact ⟨i2.1.trans i1.1,i2.2.trans i1.2⟩
     ·injection d with d; injection d with _ d; subst d; exact i1
    ·injection d with d
     injection d with _ d;subst d;exact i1
structure Draws where
 a : List Tmp → Nat → Array Go.Oper → List Oper → Bool
 b : List Tmp → Nat → Array Go.Oper → List (Nat × Nat) → List Oper → Bool
 c : List Tmp → Nat → Go.Code → Spec → Bool
def zk (P : Program) (CD : Draws) (κ : List Tmp) (nt : Nat) : Go.Code → Code → Bool
 | .skip,.skip => true
 | c,.spec sp => CD.c κ nt c sp
 | .region _ ops draw,.regd ps xs => draw && CD.b κ nt ops ps xs
 | .region _ ops draw,.reg xs => if draw then CD.a κ nt ops xs else zhj P κ nt ops [] ops.toList xs
 | .seq a b,.seq a' b' => zk P CD κ nt a a' && zk P CD κ nt b b'
 | .cond c a b,.cond x a' b' => okX κ [] c x && zk P CD κ nt a a' && zk P CD κ nt b b'
 | .block id b,.block id' b' => (id == id') && zk P CD κ nt b b'
 | .loop b,.loop live _ b' => (live.length == κ.length) && zk P CD κ nt b b'
 | .exit id,.exit id' live _ => (id == id') && (live.length == κ.length)
 | .scope b,.scope b' => zk P CD κ nt b b'
 | .label l,.label l' => l == l'
 | .goto l,.goto l' live _ => (l == l') && (live.length == κ.length)
 | .ret,.ret live => live.length == κ.length
 | _,_ => false
def zx1 (P : Program) (κ : List Tmp) (nt id : Nat) (gops : Array Go.Oper) (r r1 : R) : Prop:=∀ (g : G) (w : World) (a : Act) (Q : Exit → Act → World → Prop),
 Rel g w r.st → Fr κ [] nt g w r a → (∀ g' w' a' loc',Ext g w r.st g' w' r1.st → Rel g' w' r1.st → Fr κ loc' nt g' w' r1 a' → Q .normal a' w') → (Go.Code.region id gops true).wp P Q a w
structure DrawOk (P : Program) (CD : Draws) : Prop where
 a : ∀ (Cf : zL),zen P Cf → ∀ (κ : List Tmp) (nt id : Nat) (gops : Array Go.Oper) (xs : List Oper),CD.a κ nt gops xs = true → ∀ (r r1 : R),r.rs = [] → steps Cf xs r = some r1 → zx1 P κ nt id gops r r1
 b : ∀ (Cf : zL),zen P Cf → ∀ (κ : List Tmp) (nt id : Nat) (gops : Array Go.Oper) (ps : List (Nat × Nat)) (xs : List Oper),CD.b κ nt gops ps xs = true → ∀ (r r1 : R),r.rs = [] → zrZ Cf ps xs r = some r1 → zx1 P κ nt id gops r r1
 lab : ∀ κ nt c sp,CD.c κ nt c sp = true → ∀ l,Go.findLabel c l = none
 c : ∀ (κ : List Tmp) (nt : Nat) (c : Go.Code) (sp : Spec),CD.c κ nt c sp = true → ∀ (s s1 : St),zrn sp s = some s1 → ∀ (g : G) (w : World) (a : Act) (Q : Exit → Act → World → Prop),
   Rel g w s.st → Fr κ [] nt g w ⟨[],s.env,s.st,s.base,s.lim⟩ a → (∀ g' w' a',Ext g w s.st g' w' s1.st → Rel g' w' s1.st → Fr κ [] nt g' w' ⟨[],s1.env,s1.st,s1.base,s1.lim⟩ a' → Q .normal a' w') → c.wp P Q a w
section
variable {P : Program} {CD : Draws} {κ : List Tmp} {nt : Nat}
theorem zih (d : DrawOk P CD) : ∀ {c : Go.Code} {ac : Code} {l : Nat},zk P CD κ nt c ac = true → findLabel ac l = none → Go.findLabel c l = none
 | c,.seq a' b',l,h,hf => by
   cases c <;> simp only [zk,yc] at h;rename_i a b;simp only [yd] at h;simp only [findLabel] at hf;split at hf
   ·cases hf
   ·rename_i e
    simp only [Go.findLabel,zih d h.1 e,zih d h.2 hf]
 | c,.label l',l,h,hf => by
   cases c <;> simp only [zk,yc] at h;rename_i f;simp only [beq_iff_eq] at h;subst h;simp only [findLabel] at hf;split at hf
   ·cases hf
   ·rename_i g
    have : (f == l) = false:=(by simpa using g);simp [Go.findLabel,this]
 | c,.skip,l,h,hf => by cases c <;> simp_all [zk,Go.findLabel]
 | c,.reg _,l,h,hf => by cases c <;> simp_all [zk,Go.findLabel]
 | c,.regd _ _,l,h,hf => by cases c <;> simp_all [zk,Go.findLabel]
 | c,.spec sp,l,h,hf => d.lab κ nt c sp (by simpa only [zk] using h) l
 | c,.cond _ _ _,l,h,hf => by cases c <;> simp_all [zk,Go.findLabel]
 | c,.block _ _,l,h,hf => by cases c <;> simp_all [zk,Go.findLabel]
 | c,.loop _ _ _,l,h,hf => by cases c <;> simp_all [zk,Go.findLabel]
 | c,.exit _ _ _,l,h,hf => by cases c <;> simp_all [zk,Go.findLabel]
 | c,.scope _,l,h,hf => by cases c <;> simp_all [zk,Go.findLabel]
 | c,.sc _ _,l,h,hf => by cases c <;> simp_all [zk]
 | c,.goto _ _ _,l,h,hf => by cases c <;> simp_all [zk,Go.findLabel]
 | c,.ret _,l,h,hf => by cases c <;> simp_all [zk,Go.findLabel]
theorem zkL (f : DrawOk P CD) : ∀ {c : Go.Code} {ac ar : Code} {l : Nat},zk P CD κ nt c ac = true → findLabel ac l = some ar → ∃ r,Go.findLabel c l = some r ∧ zk P CD κ nt r ar = true
 | c,.seq a' b',ar,l,h,hf => by
   cases c <;> simp only [zk,yc] at h;rename_i a b;simp only [yd] at h;simp only [findLabel] at hf;split at hf
   ·rename_i rest d
    injection hf with hf;subst hf;obtain ⟨r,g,e⟩:=zkL f h.1 d;exact ⟨.seq r b,by simp only [Go.findLabel,g],by simp [zk,e,h.2]⟩
   ·rename_i d
    obtain ⟨r,g,e⟩:=zkL f h.2 hf;exact ⟨r,by simp only [Go.findLabel,zih f h.1 d,g],e⟩
 | c,.label l',ar,l,h,hf => by
   cases c <;> simp only [zk,yc] at h;rename_i i;simp only [beq_iff_eq] at h;subst h;simp only [findLabel] at hf;split at hf
   ·rename_i he
    injection hf with hf;subst hf;exact ⟨.skip,by simp [Go.findLabel,he],rfl⟩
   ·cases hf
 | c,.skip,_,l,h,hf => by simp [findLabel] at hf
 | c,.reg _,_,l,h,hf => by simp [findLabel] at hf
 | c,.cond _ _ _,_,l,h,hf => by simp [findLabel] at hf
 | c,.block _ _,_,l,h,hf => by simp [findLabel] at hf
 | c,.loop _ _ _,_,l,h,hf => by simp [findLabel] at hf
 | c,.exit _ _ _,_,l,h,hf => by simp [findLabel] at hf
 | c,.scope _,_,l,h,hf => by simp [findLabel] at hf
 | c,.sc _ _,_,l,h,hf => by simp [findLabel] at hf
 | c,.goto _ _ _,_,l,h,hf => by simp [findLabel] at hf
 | c,.ret _,_,l,h,hf => by simp [findLabel] at hf
end
section
variable {P : Program} {a : Act} {w : World} {Q : Exit → Act → World → Prop}
def RL (P : Program) (c : Go.Code) (Q : Exit → Act → World → Prop) (a : Act) (w : World) : Prop :=
 ∀ (b : Frame) (k : List Item) (cs : List Frame),∃ e a' w',Q e a' w' ∧ Arrives P (lone (b.at a (.code c :: .inLoop c :: k)) cs w) b k cs e a' w'
theorem zug {c : Go.Code} (h : RL P c Q a w) : (Go.Code.loop c).wp P Q a w:=fun b k cs =>
 let ⟨e,a',w',q,r⟩:=h b k cs; ⟨e,a',w',q,.of_steps (.one step_loop) r⟩
theorem zsg {c : Go.Code} (h : c.wp P (Exit.then (RL P c Q) Q) a w) : RL P c Q a w:=by
 intro b k cs;obtain ⟨e,j,i,g,d⟩:=h b (.inLoop c :: k) cs
 cases e with
 | normal =>
   obtain ⟨p,n,o,m,f⟩:=g b k cs;exact ⟨p,n,o,m,.of_steps (Steps.trans d (.one step_inLoop)) f⟩
 | exit id => exact ⟨_,j,i,g,.pass (x:=.inLoop c) rfl (fun _ _ => .inl (by simp)) d⟩
 | goto l => exact ⟨_,j,i,g,.pass (x:=.inLoop c) rfl (fun _ _ => .inl (by simp)) d⟩
 | ret => exact ⟨_,j,i,g,.pass (x:=.inLoop c) rfl (fun _ _ => .inl (by simp)) d⟩
 | panic ch => exact ⟨_,j,i,g,.pass (x:=.inLoop c) rfl (fun _ _ => .inl (by simp)) d⟩
 | outgrown => exact ⟨_,j,i,g,.pass (x:=.inLoop c) rfl (fun _ _ => .inl (by simp)) d⟩
def RS (P : Program) (body : Go.Code) (Q : Exit → Act → World → Prop) (rest : Go.Code) (a : Act) (w : World) : Prop :=
 ∀ (b : Frame) (k : List Item) (cs : List Frame),∃ e a' w',Q e a' w' ∧ Arrives P (lone (b.at a (.code rest :: .inScope body :: k)) cs w) b k cs e a' w'
def Exit.inSc (P : Program) (body : Go.Code) (Q : Exit → Act → World → Prop) : Exit → Act → World → Prop
 | .goto l,a,w => match Go.findLabel body l with
   | some r => RS P body Q r a w
   | none => Q (.goto l) a w
 | e,a,w => Q e a w
theorem zzH {body : Go.Code} (h : RS P body Q body a w) : (Go.Code.scope body).wp P Q a w:=fun b k cs =>
 let ⟨e,a',w',q,r⟩:=h b k cs; ⟨e,a',w',q,.of_steps (.one step_scope) r⟩
theorem zAB {body rest : Go.Code} (h : rest.wp P (Exit.inSc P body Q) a w) : RS P body Q rest a w:=by
 intro b k cs;obtain ⟨e,i,g,d,c⟩:=h b (.inScope body :: k) cs
 cases e with
 | normal => exact ⟨.normal,i,g,d,Steps.trans c (.one step_inScope)⟩
 | exit id => exact ⟨.exit id,i,g,d,fun n o => c n (by simp [exitTo,o])⟩
 | goto l =>
   simp only [Exit.inSc] at d
   cases j : Go.findLabel body l with
   | none =>
     rw [j] at d;exact ⟨.goto l,i,g,d,fun n o => c n (by simp [gotoIn,j,o])⟩
   | some r =>
     rw [j] at d;obtain ⟨s,p,q,m,f⟩:=d b k cs;exact ⟨s,p,q,m,.of_steps (c _ (by simp [gotoIn,j])) f⟩
 | ret => exact ⟨_,i,g,d,c⟩
 | panic ch => exact ⟨_,i,g,d,c⟩
 | outgrown => exact ⟨_,i,g,d,c⟩
end
def ziL : Ex → Exit
 | .normal => .normal
 | .exit i => .exit i
 | .goto l => .goto l
 | .ret => .ret
section
variable {P : Program} {CD : Draws} {κ : List Tmp} {nt : Nat} {g0 : G} {w0 : World} {σ0 : zb} {T : Nat → Option Entry}
def zAc (g0 : G) (w0 : World) (σ0 : zb) (κ : List Tmp) (nt : Nat) (e : Ex) (s' : St) : Exit → Act → World → Prop:=fun x a w => x = ziL e ∧ ∃ g,At' g0 w0 σ0 κ nt g w s' a
theorem zlX (K : DrawOk P CD) (B : Clean g0 σ0.length) : ∀ (n : Nat),(∀ m,m < n → zen P (zdJ T (zG T m))) →
  (∀ (c : Go.Code) (ac : Code) (s : St) (e : Ex) (C : St),zk P CD κ nt c ac = true → zG T n ac s = some (e,C) → ∀ g w a,σ0.length ≤ s.base → At' g0 w0 σ0 κ nt g w s a → c.wp P (zAc g0 w0 σ0 κ nt e C) a w) ∧
  (∀ (J gc : Go.Code) (ab ac : Code) (s : St) (e : Ex) (C : St),zk P CD κ nt J ab = true → zk P CD κ nt gc ac = true → zG T n (.sc ab ac) s = some (e,C) → ∀ g w a,σ0.length ≤ s.base → At' g0 w0 σ0 κ nt g w s a → RS P J (zAc g0 w0 σ0 κ nt e C) gc a w) ∧
  (∀ (J : Go.Code) (live : List Bool) (u : Nat) (ab : Code) (s : St) (e : Ex) (C : St),live.length = κ.length → zk P CD κ nt J ab = true → zG T n (.loop live u ab) s = some (e,C) → ∀ g w a,σ0.length ≤ s.base → At' g0 w0 σ0 κ nt g w s a → RL P J (zAc g0 w0 σ0 κ nt e C) a w)
 | 0,_ => ⟨fun _ _ _ _ _ _ h => by simp [zG] at h,fun _ _ _ _ _ _ _ _ _ h => by simp [zG] at h,fun _ _ _ _ _ _ _ _ _ h => by simp [zG] at h⟩
 | n + 1,hS => by
   obtain ⟨y,O,S⟩:=zlX K B n fun m hm => hS m (by omega);have G:=hS n (by omega);refine ⟨fun c ac s e C f h g w a q A => ?_,fun J gc ab ac s e C I Z h g w a q A => ?_,fun J live u ab s e C L f h g w a q A => ?_⟩
   ·cases ac <;> simp only [zG] at h
    case skip =>
     injection h with h;injection h with k d;subst k d;cases c <;> simp only [zk,yc] at f;exact wp_skip ⟨rfl,g,A⟩
    case label l =>
     injection h with h;injection h with k d;subst k d;cases c <;> simp only [zk,yc] at f;exact wp_label ⟨rfl,g,A⟩
    case ret live =>
     injection h with h;injection h with k d;subst k d;cases c <;> simp only [zk,yc,beq_iff_eq] at f;exact wp_ret ⟨rfl,g,A.ext,A.rel,A.fr.clr f⟩
    case exit id live u =>
     rw [ya] at h;obtain ⟨s1,k,h⟩:=h;injection h with d o;subst d o;cases c <;> simp only [zk,yc,yd,beq_iff_eq] at f;obtain ⟨rfl,L⟩:=f;obtain ⟨g',p⟩:=zma B q L k A;exact wp_exit ⟨rfl,g',p⟩
    case goto l live u =>
     rw [ya] at h;obtain ⟨s1,k,h⟩:=h;injection h with d o;subst d o;cases c <;> simp only [zk,yc,yd,beq_iff_eq] at f;obtain ⟨rfl,L⟩:=f;obtain ⟨g',p⟩:=zma B q L k A;exact wp_goto ⟨rfl,g',p⟩
    case reg xs =>
     rw [ya] at h;obtain ⟨r1,k,h⟩:=h;injection h with d o;subst d o
     have z : ∀ g' w' v r,Ext g w s.st g' w' r1.st → Rel g' w' r1.st → Fr κ r nt g' w' r1 v → zAc g0 w0 σ0 κ nt .normal ⟨r1.env,r1.st,s.base,s.lim⟩ .normal v w':=fun g' w' v r H R M =>
      ⟨rfl,g',A.ext.trans H,R,Fr.bare (rs:=r1.rs) (b:=r1.base) (l:=r1.lim) M⟩
     cases c <;> simp only [zk,yc] at f;rename_i id ops draw;cases draw
     ·simp only [yc,if_false] at f
      refine wp_region ?_;rw [List.range_eq_range'];have:=zqO (Q:=zAc g0 w0 σ0 κ nt .normal ⟨r1.env,r1.st,s.base,s.lim⟩) G ops.toList xs 0 (loc:=[]) (fun j => by simp) f k A.rel A.fr z;simpa using this
     ·simp only [if_true] at f
      exact K.a _ G κ nt id ops xs f _ r1 rfl k g w a _ A.rel A.fr z
    case regd ps xs =>
     rw [ya] at h;obtain ⟨r1,k,h⟩:=h;injection h with d o;subst d o
     have z : ∀ g' w' v r,Ext g w s.st g' w' r1.st → Rel g' w' r1.st → Fr κ r nt g' w' r1 v → zAc g0 w0 σ0 κ nt .normal ⟨r1.env,r1.st,s.base,s.lim⟩ .normal v w':=fun g' w' v r H R M =>
      ⟨rfl,g',A.ext.trans H,R,Fr.bare (rs:=r1.rs) (b:=r1.base) (l:=r1.lim) M⟩
     cases c <;> simp only [zk,yc,yd] at f;rename_i id ops draw;obtain ⟨rfl,f⟩:=f;exact K.b _ G κ nt id ops ps xs f _ r1 rfl k g w a _ A.rel A.fr z
    case spec sp =>
     rw [ya] at h;obtain ⟨s1,k,h⟩:=h;injection h with d o;subst d o;have X : CD.c κ nt c sp = true:=(by simpa only [zk] using f);exact K.c κ nt c sp X s s1 k g w a _ A.rel A.fr fun g' w' v H R M => ⟨rfl,g',A.ext.trans H,R,M⟩
    case seq a1 b1 =>
     rw [yb] at h;obtain ⟨⟨E,s1⟩,k,d⟩:=h;cases c <;> simp only [zk,yc,yd] at f;have i:=zb8 T n _ _ _ _ k;refine wp_seq (wp_mono (y _ _ _ _ _ f.1 k g w a q A) fun x v w' D => ?_);obtain ⟨rfl,g',p⟩:=D;cases E <;> simp only [zqm] at d <;> simp only [ziL,Exit.then]
     case normal => exact y _ _ _ _ _ f.2 d g' w' v (by rw [i.1]; exact q) p
     all_goals
      injection d with d;injection d with d o;subst d o;exact ⟨rfl,g',p⟩
    case cond x a1 b1 =>
     unfold zpR at h;cases c <;> simp only [zk,yc,yd] at f;have hv:=A.fr.get f.1.1;split at h
     ·rename_i t N
      rw [N] at hv;obtain ⟨ev,_⟩:=zH hv;refine wp_cond_split ev (fun Y => ?_) (fun Y => ?_)
      ·rw [if_pos Y] at h
       exact y _ _ _ _ _ f.1.2 h g w a q A
      ·rw [if_neg (by simp [Y])] at h
       exact y _ _ _ _ _ f.2 h g w a q A
     ·cases h
    case block id body =>
     rw [ya] at h;obtain ⟨⟨E,s1⟩,k,d⟩:=h;cases c <;> simp only [zk,yc,yd,beq_iff_eq] at f;obtain ⟨rfl,f⟩:=f;refine wp_block (wp_mono (y _ _ _ _ _ f k g w a q A) fun x v w' D => ?_);obtain ⟨rfl,g',p⟩:=D;cases E <;> simp only [zqu] at d <;> simp only [ziL,Exit.inBlock]
     case exit id' =>
      split at d
      ·rename_i he
       injection d with d o;subst d o;rw [if_pos he];exact ⟨rfl,g',p⟩
      ·rename_i he
       injection d with d o;subst d o;rw [if_neg he];exact ⟨rfl,g',p⟩
     all_goals
      injection d with d o;subst d o;exact ⟨rfl,g',p⟩
    case loop live u body =>
     cases c <;> simp only [zk,yc,yd,beq_iff_eq] at f;refine zug (zsg ?_);rw [yb] at h;obtain ⟨⟨E,s1⟩,k,d⟩:=h;have i:=zb8 T n _ _ _ _ k;refine wp_mono (y _ _ _ _ _ f.2 k g w a q A) fun x v w' D => ?_;obtain ⟨rfl,g',p⟩:=D;cases E <;> simp only [zm5] at d <;> simp only [ziL,Exit.then]
     case normal =>
      rw [yb] at d;obtain ⟨s2,d,o⟩:=d;obtain ⟨V,W⟩:=zma B (by rw [i.1]; exact q) f.1 d p;exact S _ _ _ _ _ _ _ f.1 f.2 o V w' v (by rw [(zgc d).1,i.1]; exact q) W
     all_goals
      injection d with d;injection d with d o;subst d o;exact ⟨rfl,g',p⟩
    case scope body =>
     cases c <;> simp only [zk,yc] at f;exact zzH (O _ _ _ _ _ _ _ f f h g w a q A)
    case sc => cases c <;> simp [zk] at f
   ·simp only [zG] at h
    rw [yb] at h;obtain ⟨⟨E,s1⟩,k,d⟩:=h;have i:=zb8 T n _ _ _ _ k;refine zAB (wp_mono (y _ _ _ _ _ Z k g w a q A) fun x v w' D => ?_);obtain ⟨rfl,g',p⟩:=D;cases E <;> simp only [scK] at d <;> simp only [ziL,Exit.inSc]
    case goto l =>
     cases U : findLabel ab l with
     | none =>
       rw [U] at d;rw [zih K I U];injection d with d;injection d with d o;subst d o;exact ⟨rfl,g',p⟩
     | some ar =>
       rw [U] at d;obtain ⟨rr,q1,q2⟩:=zkL K I U;rw [q1];exact O _ _ _ _ _ _ _ I q2 d g' w' v (by rw [i.1]; exact q) p
    all_goals
     injection d with d;injection d with d o;subst d o;exact ⟨rfl,g',p⟩
   ·simp only [zG] at h
    refine zsg ?_;rw [yb] at h;obtain ⟨⟨E,s1⟩,k,d⟩:=h;have i:=zb8 T n _ _ _ _ k;refine wp_mono (y _ _ _ _ _ f k g w a q A) fun x v w' D => ?_;obtain ⟨rfl,g',p⟩:=D;cases E <;> simp only [zm5] at d <;> simp only [ziL,Exit.then]
    case normal =>
     rw [yb] at d;obtain ⟨s2,d,o⟩:=d;obtain ⟨V,W⟩:=zma B (by rw [i.1]; exact q) L d p;exact S _ _ _ _ _ _ _ L f o V w' v (by rw [(zgc d).1,i.1]; exact q) W
    all_goals
     injection d with d;injection d with d o;subst d o;exact ⟨rfl,g',p⟩
end
def zg3 (P : Program) (κ : List Tmp) : List ResultVar → List (Nat × Option (Option Nat)) → Bool
 | [],[] => true
 | .tmp t :: rs,(i,none) :: xs => (κ[i]? == some t) && zg3 P κ rs xs
 | .cell t ty :: rs,(i,some sz) :: xs => (κ[i]? == some t) && zBz P ty sz && zg3 P κ rs xs
 | _,_ => false
def zg7 : List Nat → Bool
 | [] => true
 | x :: xs => !xs.contains x && zg7 xs
theorem zjk : ∀ {xs : List Nat},zg7 xs = true → xs.Nodup
 | [],_ => List.nodup_nil
 | x :: xs,h => by
   simp only [zg7,yd,Bool.not_eq_true'] at h;exact List.nodup_cons.2 ⟨by simpa using h.1,zjk h.2⟩
def zth (P : Program) (CD : Draws) (κ : List Tmp) (gf : Func) (fn : Fun) : Bool :=
 (match gf.body with
  | some c => zk P CD κ gf.ntmps c fn.body
  | none => false) &&
 zg7 κ && κ.all (fun t => decide (t < gf.ntmps)) && κ.length == fn.nslots && decide (fn.np ≤ fn.nslots) && decide (fn.np ≤ gf.ntmps) && (κ.take fn.np == yp fn.np) && zg3 P κ gf.results.toList fn.results
def zvn (P : Program) (CD : Draws) (T : Nat → Option Entry) : Prop:=∀ f,
 (∀ fn, T f = some (.fn fn) → ∃ gf κ, P.funcs[f]? = some gf ∧ (gf.name == "runtime.NumGoroutine") = false ∧ zth P CD κ gf fn = true) ∧
 (∀ ext,T f = some (.ext ext) → ∀ args σ v σ',ext args σ = some (v,σ') → Enters P f ∧ ∀ g w us,Rel g w σ → zv g w σ args us → Calls P f us.toArray w fun e w' => ∃ u g',e = .returned u ∧ ze g' w' σ' v u ∧ Rel g' w' σ' ∧ Ext g w σ g' w' σ')
section
variable {P : Program} {CD : Draws} {κ : List Tmp} {nt : Nat} {g : G} {w : World} {σ : zb} {T : Nat → Option Entry} {a : Act}
theorem ztc {t : TypeId} {x : Operand} {u : Value} (h : (execOp a.eval { (default : Go.Oper) with op:=.load t x }).run P w = .ok (.value u) w) : ∃ ad,a.eval x = .pointer (some ad) ∧ (loadVar t ad).run P w = .ok u w ∨ ¬ ∃ ad,a.eval x = .pointer (some ad):=by
 by_cases b : ∃ ad,a.eval x = .pointer (some ad)
 ·obtain ⟨ad,b⟩:=b
  refine ⟨ad,.inl ⟨b,?_⟩⟩;unfold execOp at h;simp only [b] at h;simp only [Instr.loadAt,Instr.sureAddr,Sem.run_bind,Sem.run_pure,Result.andThen_ok] at h
  cases c : (loadVar t ad).run P w with
  | ok v w1 =>
    rw [c] at h;simp only [Result.andThen_ok] at h;injection h with h1 h2;injection h1 with h1;rw [h1,h2]
  | halt x w1 =>
    rw [c] at h;simp [Result.andThen] at h
 ·exact ⟨⟨0,0,none⟩,.inr b⟩
def zt1 (tmps : Array Value) : ResultVar → Sem Value
 | .tmp t => pure (tmps.getD t undef)
 | .cell ad t => do loadVar t (← asAddr (tmps.getD ad undef))
theorem zu4 (gf : Func) (tmps : Array Value) : results gf tmps = (do
  let vs ← gf.results.mapM (zt1 tmps)
  pure (if h : vs.size = 1 then vs[0] else .tuple vs)):=by
 unfold results
 congr 1
theorem zsw {r : R} (y : Rel g w r.st) (F : Fr κ [] nt g w r a) : ∀ {rs : List ResultVar} {xs : List (Nat × Option (Option Nat))} {raw : Bool} {lim : Nat} {vs : List V},zg3 P κ rs xs = true → outs raw lim r.st r.env xs = some vs →
  ∃ us v0s,(rs.mapM (zt1 a.tmps)).run P w = .ok us w ∧ zv g w r.st v0s us ∧ v0s.length = vs.length ∧ ∀ (i : Nat) (v : V),vs[i]? = some v → ∃ v0,v0s[i]? = some v0 ∧ zxw raw lim r.st v0 = some v
 | [],[],raw,lim,vs,_,h => by
   simp only [outs,Option.some.injEq] at h;subst h;exact ⟨[],[],by simp,by simp only [zv],rfl,fun i v h => by simp at h⟩
 | .tmp t :: rs,(i,none) :: xs,raw,lim,vs,hc,h => by
   simp only [zg3,yd,beq_iff_eq] at hc;simp only [outs] at h;obtain ⟨v,z,l,m,rfl⟩:=zdY h;obtain ⟨us,v0s,s,q,n,x⟩:=zsw y F hc.2 m;simp only [zrF,yk] at l;refine ⟨a.tmps.getD t undef :: us,r.env.getD i vun :: v0s,by simp [ym,zt1,s],by simp only [zv]; exact ⟨_,_,rfl,F.env i t hc.1,q⟩,by simp [n],fun j v' b => ?_⟩
   cases j with
   | zero => simp at b; subst b; exact ⟨_,by simp,l⟩
   | succ j => simpa using x j v' (by simpa using b)
 | .cell t ty :: rs,(i,some sz) :: xs,raw,lim,vs,hc,h => by
   simp only [zg3,yd,beq_iff_eq] at hc;simp only [outs] at h;obtain ⟨v,z,l,m,rfl⟩:=zdY h;obtain ⟨us,v0s,s,q,n,x⟩:=zsw y F hc.2 m;rw [yb] at l;obtain ⟨v0,c,C⟩:=l;simp only [zrF] at c;have f : ze g w r.st (r.env.getD i vun) (a.eval (.tmp t)):=F.env i t hc.1.1;obtain ⟨u,B,A⟩:=ztR (P:=P) (o:={ (default : Go.Oper) with op:=.load ty (.tmp t) }) y rfl (zkX hc.1.2) f c
   have k : ∃ ad,a.eval (.tmp t) = .pointer (some ad):=by
    unfold ald at c
    split at c <;> first
     | (rename_i he; rw [he] at f; simp only [ze,zq] at f; first | (obtain ⟨_,_,_,_,_,_,ad,e⟩:=f; exact ⟨ad,e⟩) | (obtain ⟨_,_,e,_⟩:=f; exact ⟨_,e⟩))
     | cases c
   obtain ⟨ad,d | p⟩:=ztc B
   ·have he : a.tmps.getD t undef = .pointer (some ad):=d.1
    refine ⟨u :: us,v0 :: v0s,by simp only [ym,zt1,he,asAddr,Sem.run_bind,Sem.run_pure,Result.andThen_ok,d.2,s],by simp only [zv]; exact ⟨_,_,rfl,A,q⟩,by simp [n],fun j v' b => ?_⟩
    cases j with
    | zero => simp at b; subst b; exact ⟨_,by simp,C⟩
    | succ j => simpa using x j v' (by simpa using b)
   ·exact absurd k p
 | [],_ :: _,_,_,_,hc,_ => by simp [zg3] at hc
 | .tmp _ :: _,[],_,_,_,hc,_ => by simp [zg3] at hc
 | .cell _ _ :: _,[],_,_,_,hc,_ => by simp [zg3] at hc
 | .tmp _ :: _,(_,some _) :: _,_,_,_,hc,_ => by simp [zg3] at hc
 | .cell _ _ :: _,(_,none) :: _,_,_,_,hc,_ => by simp [zg3] at hc
theorem zlt {lim : Nat} (e : σ.length ≤ lim) : ∀ {cs : List C} {xs : List Fz},zgG lim σ cs = some xs → zdm cs = some xs
 | [],xs,h => by simpa only [zgG,zdm] using h
 | c :: cs,xs,h => by
   simp only [zgG] at h;simp only [zdm];unfold zeA at h ⊢;split at h
   ·rename_i x ys a b
    injection h with h;subst h;rw [zlt e b]
    have : zvD c = some x:=by
     unfold zyH at a;split at a
     ·split at a
      ·rename_i d
       rw [ya] at a;obtain ⟨_,a,_⟩:=a;rw [yb] at a;obtain ⟨_,a,_⟩:=a;have:=za a;omega
      ·cases a
     ·exact a
    rw [this]
   ·cases h
theorem zln (e : Rel g w σ) {lim : Nat} : ∀ {cs : List C} {xs : List Fz} {us : List Value},zgG lim σ cs = some xs → zm g w σ cs us → zm (g.drop lim w) w (σ.take lim) (xs.map C.f) us
 | [],xs,us,h,hr => by
   simp only [zgG,Option.some.injEq] at h;subst h;simpa only [List.map_nil,zm] using hr
 | c :: cs,xs,us,h,hr => by
   simp only [zgG] at h;unfold zeA at h;split at h
   ·rename_i x ys a l
    injection h with h;subst h;simp only [zm] at hr;obtain ⟨v,vs,rfl,k,q⟩:=hr;simp only [List.map_cons,zm];refine ⟨v,vs,rfl,?_,zln e l q⟩;unfold zyH at a;split at a
    ·split at a
     ·rename_i id i lo n d
      rw [ya] at a;obtain ⟨ys,a,rfl⟩:=a;simp only [zq];refine zkN e (fun b o h => .inl h) (fun o => ?_) a (by simpa only [ze] using k)
      by_cases j : ∃ sz es,σ[id]? = some (.cells i sz es) ∧ es ≠ []
      ·obtain ⟨sz,es,r,m⟩:=j
       obtain ⟨s,_,arr,t,p,_⟩:=e.ob id _ r m;exact .inl (.inr ⟨(yg.1 p).1,id,d,s⟩)
      ·exact .inr j
     ·cases a
    ·simp only [zq]
     exact zbD zeP _ v (zeJ a k)
   ·cases h
theorem zzG {lim : Nat} {raw : Bool} {v0 v : V} {u : Value} (d : σ.length ≤ lim) (h : zxw raw lim σ v0 = some v) (a : ze g w σ v0 u) : ze g w σ v u:=by
 unfold zxw at h;split at h
 ·injection h with h; subst h; exact a
 ·unfold zz8 at h
  split at h
  ·split at h
   ·rename_i id e lo n c
    rw [ya] at h;obtain ⟨xs,h,_⟩:=h;rw [yb] at h;obtain ⟨i,h,_⟩:=h;have:=za h;omega
   ·cases h
  ·injection h with h
   subst h;simp only [ze,zq] at a;simp only [vsl,ze,zq];exact a.1
  ·rw [ya] at h
   obtain ⟨xs,h,rfl⟩:=h;simp only [ze] at a;obtain ⟨us,f,b⟩:=a;simp only [zym,ze];exact ⟨us,f,zkO (ze5.refl _ _) rfl (zlt d h) b⟩
  ·injection h with h; subst h; exact a
theorem zyy (e : Rel g w σ) {lim : Nat} {raw : Bool} {v0 v : V} {u : Value} (h : zxw raw lim σ v0 = some v) (a : ze g w σ v0 u) (c : v.lt lim = true) : ze (g.drop lim w) w (σ.take lim) v u:=by
 unfold zxw at h;split at h
 ·injection h with h; subst h; exact zhT _ _ a c
 ·unfold zz8 at h
  split at h
  ·split at h
   ·rename_i id f lo n d
    rw [ya] at h;obtain ⟨xs,h,rfl⟩:=h;simp only [vsl,ze,zq];refine zkN e (fun b o h => .inl h) (fun o => ?_) h a
    by_cases i : ∃ sz es,σ[id]? = some (.cells f sz es) ∧ es ≠ []
    ·obtain ⟨sz,es,q,m⟩:=i
     obtain ⟨p,_,arr,t,k,_⟩:=e.ob id _ q m;exact .inl (.inr ⟨(yg.1 k).1,id,d,p⟩)
    ·exact .inr i
   ·cases h
  ·injection h with h
   subst h;simp only [ze,zq] at a;simp only [vsl,ze,zq];exact zbD zeP _ u a.1
  ·rw [ya] at h
   obtain ⟨xs,h,rfl⟩:=h;simp only [ze] at a;obtain ⟨us,l,j⟩:=a;simp only [zym,ze];exact ⟨us,l,zln e h j⟩
  ·injection h with h; subst h; exact zhT _ _ a c
theorem zfx : ∀ {vs : List V} {us : List Value},zv g w σ vs us → us.length = vs.length
 | [],us,h => by simp only [zv] at h; simp [h]
 | c :: cs,us,h => by
   simp only [zv] at h;obtain ⟨v,vs,rfl,_,a⟩:=h;simp [zfx a]
theorem zpS : ∀ {vs : List V} {us : List Value},us.length = vs.length → (∀ (j : Nat) (c : V) (u : Value),vs[j]? = some c → us[j]? = some u → ze g w σ c u) → zv g w σ vs us
 | [],us,hl,_ => by simp only [zv]; exact List.eq_nil_of_length_eq_zero (by simpa using hl)
 | c :: cs,[],hl,_ => by simp at hl
 | c :: cs,v :: vs,hl,h => by
   simp only [zv];exact ⟨v,vs,rfl,h 0 c v (by simp) (by simp),zpS (by simpa using hl) fun j c u a hu => h (j + 1) c u (by simpa using a) (by simpa using hu)⟩
theorem zwx {n : Nat} : ∀ {vs : List V} {i : Nat} {v : V},V.lts n vs = true → vs[i]? = some v → v.lt n = true
 | [],_,_,_,h => by simp at h
 | x :: xs,0,v,hl,h => by
   simp only [V.lts,yd] at hl;simp at h;subst h;exact hl.1
 | x :: xs,i + 1,v,hl,h => by
   simp only [V.lts,yd] at hl;exact zwx hl.2 (by simpa using h)
theorem zjh {g0 : G} {w0 : World} {σ0 : zb} {fn : Fun} {gf : Func} {e : Ex} {s : St} {v : V} {σ' : zb} (i : Clean g0 σ0.length) (k : σ0.length ≤ s.lim) (H : zg3 P κ gf.results.toList fn.results = true) (h : leave fn.raw fn.results (e,s) = some (v,σ')) (A : At' g0 w0 σ0 κ nt g w s a) :
  (e = .normal ∨ e = .ret) ∧ a.defers = [] ∧ ∃ u,(results gf a.tmps).run P w = .ok u w ∧ ∃ g',ze g' w σ' v u ∧ Rel g' w σ' ∧ Ext g0 w0 σ0 g' w σ':=by
 have y : (e = .normal ∨ e = .ret) ∧ (outs fn.raw s.lim s.st s.env fn.results).bind (zkd s.lim s.st) = some (v,σ'):=by
  cases e <;> simp only [leave] at h
  case normal => exact ⟨.inl rfl,h⟩
  case ret => exact ⟨.inr rfl,h⟩
  all_goals cases h
 refine ⟨y.1,A.fr.df,?_⟩;have h:=y.2;rw [yb] at h;obtain ⟨vs,C,b⟩:=h;unfold zkd at b;rw [ya] at b;obtain ⟨σ2,b,p⟩:=b;injection p with p h4;subst p h4;obtain ⟨us,B,E,r,J,t⟩:=zsw (P:=P) A.rel A.fr H C;have I:=zfx r
 have l : (results gf a.tmps).run P w = .ok (if us.length = 1 then us.getD 0 undef else .tuple us.toArray) w:=by
  rw [zu4,Array.mapM_eq_mapM_toList];simp only [Sem.run_bind,Sem.run_map,E];simp only [Result.andThen_ok,Sem.run_pure]
  congr 1
  by_cases h : us.length = 1
  ·match us,h with
   | [x],_ => simp
  ·simp [h]
 have hval : ∀ {g' : G},zv g' w σ2 vs us → ze g' w σ2 (zAd vs) (if us.length = 1 then us.getD 0 undef else .tuple us.toArray):=fun {g'} hv => by
  have D:=zfx hv;unfold zAd;split
  ·simp only [zv] at hv
   obtain ⟨x,xs,rfl,m,rfl⟩:=hv;simpa using m
  ·rename_i q
   have : us.length ≠ 1:=fun h => by
    rw [D] at h
    match vs,h with
    | [x],_ => exact q x rfl
   rw [if_neg this];simp only [ze];exact ⟨_,rfl,by simpa using hv⟩
 refine ⟨_,l,?_⟩;unfold zkk at b;split at b
 ·rename_i hle
  injection b with b;subst b;refine ⟨g,hval (zpS (by omega) fun j c u i hu => ?_),A.rel,A.ext⟩;obtain ⟨v0,m,n⟩:=t j c i;obtain ⟨z,d,o⟩:=zhP r m;rw [hu] at d;injection d with d;subst d;exact zzG hle n o
 ·split at b
  ·rename_i f
   injection b with b;subst b;simp only [yd] at f;refine ⟨g.drop s.lim w,hval (zpS (by omega) fun j c u i hu => ?_),ztP A.rel f.2,ztC A.ext i k⟩;obtain ⟨v0,m,n⟩:=t j c i;obtain ⟨z,d,o⟩:=zhP r m;rw [hu] at d;injection d with d;subst d;exact zyy A.rel n o (zwx f.1 i)
  ·cases b
theorem zjc {gf : Func} {fn : Fun} {args : List V} {us : List Value} (o : Rel g w σ) (j : zv g w σ args us) (e : zg7 κ = true) (a : κ.all (fun t => decide (t < gf.ntmps)) = true) (hlen : κ.length = fn.nslots) (s : fn.np ≤ fn.nslots) (r : fn.np ≤ gf.ntmps) (q : κ.take fn.np = yp fn.np) (l : args.length = fn.np) :
  At' (g.clean σ.length) w σ κ gf.ntmps (g.clean σ.length) w (enter fn args σ) { tmps:=us.toArray ++ yn (gf.ntmps - us.toArray.size) undef,defers:=[] }:=by
 have p:=zfx j;refine ⟨Ext.refl _ _ _,zvW o,⟨by simp; omega,by simp [enter]; omega,fun i t f => ?_,fun d t h => by simp at h,fun d t h => by simp at h,zjk e,fun t f => by simpa using List.all_eq_true.1 a t f,rfl⟩⟩
 by_cases c : i < args.length
 ·have : t = i:=by
   have b : (κ.take fn.np)[i]? = some t:=(by rw [zgt (by omega)]; exact f);rw [q,List.getElem?_range (by omega)] at b;injection b with b;exact b.symm
  subst this
  have e2 : (args ++ yi (fn.nslots - args.length) vun).getD t vun = args[t]:=by
   rw [yf,List.getElem?_append_left c,yh c];rfl
  show ze (g.clean σ.length) w σ ((args ++ yi (fn.nslots - args.length) vun).getD t vun) _
  rw [e2];obtain ⟨u,n,k⟩:=zhP j (yh c)
  have m : (us.toArray ++ yn (gf.ntmps - us.toArray.size) undef).getD t undef = u:=by
   rw [ye,Array.getElem?_append_left (by simp; omega)];simp [n]
  rw [m];exact zdA (g:=g) (g':=g.clean σ.length) rfl rfl rfl _ _ k
 ·have e2 : (args ++ yi (fn.nslots - args.length) vun).getD i vun = vun:=by
   rw [yf,List.getElem?_append_right (by omega),List.getElem?_replicate];split <;> rfl
  show ze (g.clean σ.length) w σ ((args ++ yi (fn.nslots - args.length) vun).getD i vun) _
  rw [e2];simp only [vun,ze,zq]
theorem zAJ (C : DrawOk P CD) (z : zvn P CD T) (n : Nat) : zen P (zdJ T (zG T n)):=by
 induction n using Nat.strongRecOn with
 | _ n ih =>
   intro f args σ v σ' h;unfold zdJ at h;split at h
   ·rename_i fn t
    split at h
    ·rename_i q
     obtain ⟨gf,κ,m,l,b⟩:=(z f).1 fn t;unfold zth at b;simp only [yd,beq_iff_eq,decide_eq_true_eq] at b;obtain ⟨⟨⟨⟨⟨⟨⟨r,B⟩,H⟩,U⟩,O⟩,W⟩,N⟩,V⟩:=b;split at r
     ·rename_i c a
      refine ⟨⟨gf,c,m,l,a⟩,fun g w us S L => ?_⟩;rw [yb] at h;obtain ⟨⟨e,s⟩,hex,d⟩:=h;have Q:=zjc (gf:=gf) S L B H U O W N q;have k:=zb8 T n _ _ _ _ hex;have j:=(zlX (T:=T) (g0:=g.clean σ.length) (w0:=w) (σ0:=σ) (κ:=κ) (nt:=gf.ntmps) C (zdO g σ.length) n ih).1 c fn.body _ e s r hex _ _ _ (Nat.le_refl _) Q;refine calls_of_wp m a (wp_mono j fun x A w' M => ?_);obtain ⟨rfl,g',J⟩:=M;obtain ⟨R,E,u,D,p,I,K,y⟩:=zjh (gf:=gf) (zdO g σ.length) (by rw [k.2]; exact Nat.le_add_right _ _) V d J
      have i : A.defers = [] ∧ ∃ v1,(results gf A.tmps).run P w' = .ok v1 w' ∧ ∃ u g',(Ending.returned v1) = .returned u ∧ ze g' w' σ' v u ∧ Rel g' w' σ' ∧ Ext g w σ g' w' σ' :=
       ⟨E,u,D,u,G.under g w p,rfl,zdA (g:=p) (g':=G.under g w p) rfl rfl rfl _ _ I,zmi y K,zne y⟩
      rcases R with rfl | rfl
      ·exact i
      ·exact i
     ·cases r
    ·cases h
   ·rename_i ext o
    exact (z f).2 ext o args σ v σ' h
   ·cases h
theorem sound (b : DrawOk P CD) (c : zvn P CD T) : zen P (call T):=fun f args σ v σ' h => by
 obtain ⟨n,a⟩:=zp5 h;exact zAJ b c n f args σ v σ' a
end
end Go.A
