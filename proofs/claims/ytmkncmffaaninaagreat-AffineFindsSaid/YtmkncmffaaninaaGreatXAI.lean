/- A part of the proof of AffineFinds. Conditions: none. -/
import Derived.Test.YtmkncmffaaninaaGreatXAH
import Derived.Scope
set_option linter.all false
open Option renaming map_eq_some_iff → ya,bind_eq_some_iff → yb,bind_some → yk,getD_some → yl
open Bool renaming false_eq_true → yc,and_eq_true → yd
open Array renaming getD_eq_getD_getElem? → ye,getElem?_eq_some_iff → yg,replicate → yn
open List renaming getD_eq_getElem?_getD → yf,getElem?_eq_getElem → yh,replicate → yi,length_cons → yj,mapM_cons → ym,range' → yo,range → yp
namespace Go.A
def zgr (κ : List Tmp) (loc : List (Option Tmp)) (gops : Array Go.Oper) : Option (Nat × Bool) → Option (X × Bool) → Bool
 | none,none => true
 | some (j,b),some (x,b') => (b == b') && (match (gops[j]?).bind (·.dst) with
   | some t => okX κ loc (.tmp t) x
   | none => false)
 | _,_ => false
def zkv (P : Program) (κ : List Tmp) (nt : Nat) (gops : Array Go.Oper) : List (Option Tmp) → List Go.Oper → List Oper → Bool
 | _,[],[] => true
 | loc,o :: os,x :: xs => okD κ nt o.dst x.dst && zgr κ loc gops o.guard x.guard && znN P κ loc o x.dst x.op && zkv P κ nt gops (zbp o.dst x.dst :: loc) os xs
 | _,_,_ => false
section
variable {P : Program} {κ : List Tmp} {loc : List (Option Tmp)} {nt : Nat} {g : G} {w : World} {r r' : R} {a : Act} {o : Go.Oper} {d : D} {next : Act → World → Prop} {Q : Exit → Act → World → Prop}
theorem zsg (F : Fr κ loc nt g w r a) {gops : Array Go.Oper} {b : Option (Nat × Bool)} {c : Option (X × Bool)} (h : zgr κ loc gops b c = true) : (c = none → b = none):=by
 unfold zgr at h;split at h
 ·exact fun _ => rfl
 ·intro h; cases h
 ·cases h
theorem zzE {gops : Array Go.Oper} {j : Nat} {t : Tmp} {b : Bool} (h : (gops[j]?).bind (·.dst) = some t) (c : a.tmps.getD t undef = .bool b) : yielded gops a.tmps j = some b:=by
 unfold yielded;rw [h];simp only [yk]
 cases d : a.tmps[t]? with
 | none => rw [ye,d] at c; cases c
 | some v =>
   rw [ye,d] at c;simp only [yl] at c;rw [c]
theorem zdX {z : zaq} (S : zg3 P z) (m : Rel g w r.st) (F : Fr κ loc nt g w r a) {gops : Array Go.Oper} {x : Oper} (hd : okD κ nt o.dst x.dst = true) (c : zgr κ loc gops o.guard x.guard = true) (q : znN P κ loc o x.dst x.op = true) {r1 : R} (h : step z r x = some r1)
  (k : zrj κ (zbp o.dst x.dst :: loc) nt g w r r1 (a.put o.dst) next) (H : ∀ a',next a' w → next a' w) :
  if Region.wanted o (yielded gops a.tmps) then o.wp P a w next Q else next (a.put o.dst undef) w:=by
 obtain ⟨d,op,B⟩:=x;simp only at hd c q
 cases B with
 | none =>
   have:=zsg F c rfl;simp only [Region.wanted,this,if_true];exact zxn S m ⟨trivial⟩ F hd q h k
 | some p =>
   obtain ⟨y,b⟩:=p;unfold zgr at c;split at c
   ·rename_i heq; cases heq
   ·rename_i j u G C l heq
    injection heq with heq;injection heq with heq1 heq2;subst heq1 heq2;simp only [yd,beq_iff_eq] at c;obtain ⟨rfl,c⟩:=c;split at c
    ·rename_i t s
     have i:=F.get c;simp only [step] at h;unfold zpa at h;split at h
     ·rename_i tb e
      rw [e] at i;obtain ⟨ev,_⟩:=z7 i;have n:=zzE (gops:=gops) s ev;simp only [Region.wanted,l,n];split at h
      ·rename_i f
       subst f;simp only [beq_self_eq_true,if_true];exact zxn S m ⟨trivial⟩ F hd q h k
      ·rename_i f
       injection h with h;subst h;have : (some tb == some u) = false:=(by simpa using f);rw [this];simp only [yc,if_false];refine k g w _ ?_ ?_ ⟨trivial⟩ (F.put hd fun _ => by simp only [zh]; exact ⟨#[],rfl,by simp only [zO]⟩)
       ·rw [zfw]; exact Ext.refl _ _ _
       ·rw [zfw]; exact m
     ·rename_i e
      rw [e] at i;injection h with h;subst h
      have hu : a.tmps.getD t undef = .tuple #[]:=by
       simp only [zh,zO] at i;obtain ⟨us,A,E⟩:=i;have : us = #[]:=(by cases us; simpa using E);rw [this] at A;exact A
      have n : yielded gops a.tmps j = none:=by
       unfold yielded;rw [s];simp only [yk]
       cases D : a.tmps[t]? with
       | none => rfl
       | some v =>
         rw [ye,D] at hu;simp only [yl] at hu;rw [hu]
      simp only [Region.wanted,l,n];have : (none == some u) = false:=rfl;rw [this];simp only [yc,if_false];refine k g w _ ?_ ?_ ⟨trivial⟩ (F.put hd fun _ => by simp only [zh]; exact ⟨#[],rfl,by simp only [zO]⟩)
      ·rw [zfw]; exact Ext.refl _ _ _
      ·rw [zfw]; exact m
     ·cases h
    ·cases c
   ·cases c
theorem zvy {d : zaq} (S : zg3 P d) {gops : Array Go.Oper} : ∀ (os : List Go.Oper) (xs : List Oper) (i : Nat) {loc : List (Option Tmp)} {g : G} {w : World} {r : R} {a : Act} {r1 : R},(∀ j,os[j]? = gops[i + j]?) → zkv P κ nt gops loc os xs = true → steps d xs r = some r1 → Rel g w r.st → Fr κ loc nt g w r a →
  (∀ g' w' a' loc',Ext g w r.st g' w' r1.st → Rel g' w' r1.st → Fr κ loc' nt g' w' r1 a' → Q .normal a' w') → wpOps P gops Q (yo i os.length) a w
 | [],[],i,loc,g,w,r,a,r1,_,_,h,R0,F,k => by
   simp only [steps,Option.some.injEq] at h;subst h;exact k g w a loc (Ext.refl _ _ _) R0 F
 | o :: os,x :: xs,i,loc,g,w,r,a,r1,hi,hc,h,R0,F,k => by
   simp only [zkv,yd] at hc;obtain ⟨⟨⟨y,z⟩,l⟩,u⟩:=hc;simp only [steps,yb] at h;obtain ⟨A,t,p⟩:=h;have c : gops[i]? = some o:=(by simpa using (hi 0).symm);rw [yj,List.range'_succ]
   have key:=zdX (Q:=Q) (gops:=gops) (next:=wpOps P gops Q (yo (i + 1) os.length)) S R0 F y z l t (fun g' w' a' H v _ m =>
    zvy S os xs (i + 1) (fun j => by
     have:=hi (j + 1);rw [show i + (j + 1) = i + 1 + j from by omega] at this;rw [← this]
     simp) u p v m fun q e a2 b n f s => k q e a2 b (H.trans n) f s) (fun _ h => h)
   simp only [wpOps,c];split
   ·rename_i hw
    rw [if_pos hw] at key;exact .inl key
   ·rename_i hw
    rw [if_neg hw] at key;exact key
 | [],_ :: _,_,_,_,_,_,_,_,_,hc,_,_,_,_ => by simp [zkv] at hc
 | _ :: _,[],_,_,_,_,_,_,_,_,hc,_,_,_,_ => by simp [zkv] at hc
structure At' (g0 : G) (w0 : World) (σ0 : zd) (κ : List Tmp) (nt : Nat) (g : G) (w : World) (s : St) (a : Act) : Prop where
 ext : Ext g0 w0 σ0 g w s.st
 rel : Rel g w s.st
 fr : Fr κ [] nt g w ⟨[],s.env,s.st,s.base,s.lim⟩ a
theorem Fr.bare {rs : List V} {env : List V} {st : zd} {b l c e : Nat} (F : Fr κ loc nt g w ⟨rs,env,st,b,l⟩ a) : Fr κ [] nt g w ⟨[],env,st,c,e⟩ a :=
 ⟨F.size,F.len,F.env,fun d t h => by simp at h,fun d t h => by simp at h,F.nd,F.bd,F.df⟩
theorem zov : ∀ {bs : List Bool} {vs : List V},bs.length = vs.length → (clr bs vs).length = vs.length
 | [],[],_ => rfl
 | true :: bs,v :: vs,h => by simp only [clr,yj]; rw [zov (by simpa using h)]
 | false :: bs,v :: vs,h => by simp only [clr,yj]; rw [zov (by simpa using h)]
 | [],_ :: _,h => by simp at h
 | _ :: _,[],h => by simp at h
theorem zwa : ∀ {bs : List Bool} {vs : List V} {i : Nat},(clr bs vs).getD i vun = vs.getD i vun ∨ (clr bs vs).getD i vun = vun
 | [],vs,i => .inr (by simp [clr])
 | true :: bs,[],i => .inr (by simp [clr])
 | false :: bs,[],i => .inr (by simp [clr])
 | true :: bs,v :: vs,0 => .inl (by simp [clr])
 | false :: bs,v :: vs,0 => .inr (by simp [clr])
 | true :: bs,v :: vs,i + 1 => by simpa [clr] using zwa (bs:=bs) (vs:=vs) (i:=i)
 | false :: bs,v :: vs,i + 1 => by simpa [clr] using zwa (bs:=bs) (vs:=vs) (i:=i)
theorem Fr.clr {env : List V} {st : zd} {b l : Nat} {bs : List Bool} (F : Fr κ [] nt g w ⟨[],env,st,b,l⟩ a) (c : bs.length = κ.length) : Fr κ [] nt g w ⟨[],Go.A.clr bs env,st,b,l⟩ a :=
 ⟨F.size,by
  have:=F.len;simp only at this
  show (Go.A.clr bs env).length = _
  rw [zov (by rw [c]; exact this.symm)]
  exact this,fun i t h => by
  have:=F.env i t h;simp only at this ⊢;rcases zwa (bs:=bs) (vs:=env) (i:=i) with e | e
  ·rw [e]; exact this
  ·rw [e]; simp only [vun,zh,zF],fun d t h => by simp at h,fun d t h => by simp at h,F.nd,F.bd,F.df⟩
theorem zxF {n : Nat} : ∀ {vs : List V} {i : Nat},V.lts n vs = true → (vs.getD i vun).lt n = true
 | [],i,_ => by simp [vun,V.lt,C.lt]
 | v :: vs,0,h => by
   simp only [V.lts,yd] at h;simpa using h.1
 | v :: vs,i + 1,h => by
   simp only [V.lts,yd] at h;simpa using zxF (vs:=vs) (i:=i) h.2
theorem zpF {g0 : G} {w0 : World} {σ0 : zd} {s f : St} {live : List Bool} {b : Nat} (j : Clean g0 σ0.length) (m : σ0.length ≤ s.base) (k : live.length = κ.length) (h : s.clear live b = some f) (A : At' g0 w0 σ0 κ nt g w s a) : ∃ g',At' g0 w0 σ0 κ nt g' w f a:=by
 unfold St.clear at h;rw [ya] at h;obtain ⟨σ',h,rfl⟩:=h;have e:=A.fr.clr (bs:=live) k;unfold zl8 at h;split at h
 ·injection h with h
  subst h;exact ⟨g,A.ext,A.rel,e⟩
 ·split at h
  ·rename_i c
   injection h with h;subst h;simp only [yd] at c;refine ⟨g.drop (s.base + b) w,zxG A.ext j (by omega),zx4 A.rel c.2,⟨e.size,e.len,fun i t l => ?_,fun d t h => by simp at h,fun d t h => by simp at h,e.nd,e.bd,e.df⟩⟩;exact zkD _ _ (e.env i t l) (zxF c.1)
  ·cases h
end
theorem zjb {s b : St} {live : List Bool} {a : Nat} (h : s.clear live a = some b) : b.base = s.base ∧ b.lim = s.lim:=by
 unfold St.clear at h;rw [ya] at h;obtain ⟨σ',_,rfl⟩:=h;exact ⟨rfl,rfl⟩
theorem zCx {sp : Spec} {s s1 : St} (h : zu7 sp s = some s1) : s1.base = s.base ∧ s1.lim = s.lim:=by
 unfold zu7 at h;rw [yb] at h;obtain ⟨r,_,h⟩:=h;unfold zxg at h;split at h
 ·split at h
  ·cases h
  ·simp only [yb,ya] at h
   obtain ⟨es,_,ds,_,a,_,h⟩:=h;subst h;exact ⟨rfl,rfl⟩
 ·cases h
theorem zdo (T : Nat → Option Entry) : ∀ (n : Nat) (c : Code) (s : St) (e : Ex) (i : St),z6 T n c s = some (e,i) → i.base = s.base ∧ i.lim = s.lim
 | 0,_,_,_,_,h => by simp [z6] at h
 | n + 1,c,s,e,i,h => by
   have g:=zdo T n;cases c <;> simp only [z6] at h
   case skip => injection h with h; injection h with f d; subst d; exact ⟨rfl,rfl⟩
   case label => injection h with h; injection h with f d; subst d; exact ⟨rfl,rfl⟩
   case ret => injection h with h; injection h with f d; subst d; exact ⟨rfl,rfl⟩
   case reg ops =>
    rw [ya] at h;obtain ⟨r,_,h⟩:=h;injection h with f d;subst d;exact ⟨rfl,rfl⟩
   case regd ps ops =>
    rw [ya] at h;obtain ⟨r,_,h⟩:=h;injection h with f d;subst d;exact ⟨rfl,rfl⟩
   case spec sp =>
    rw [ya] at h;obtain ⟨s1,f,h⟩:=h;injection h with _ d;subst d;exact zCx f
   case exit id live objs =>
    rw [ya] at h;obtain ⟨s1,f,h⟩:=h;injection h with _ d;subst d;exact zjb f
   case goto id live objs =>
    rw [ya] at h;obtain ⟨s1,f,h⟩:=h;injection h with _ d;subst d;exact zjb f
   case seq a b =>
    rw [yb] at h;obtain ⟨⟨e1,s1⟩,f,d⟩:=h;have i1:=g a s e1 s1 f;cases e1 <;> simp only [zri] at d
    case normal => have i2:=g b s1 e i d; exact ⟨i2.1.trans i1.1,i2.2.trans i1.2⟩
    all_goals
     injection d with d;injection d with _ d;subst d;exact i1
   case cond x a b =>
    unfold zsM at h;split at h
    ·split at h
     ·exact g _ _ _ _ h
     ·exact g _ _ _ _ h
    ·cases h
   case block id body =>
    rw [ya] at h;obtain ⟨⟨e1,s1⟩,f,d⟩:=h;have i1:=g _ _ _ _ f;unfold zuu at d;split at d
    ·rename_i heq
     injection heq with q1 q2;subst q2;split at d <;> (injection d with _ d; subst d; exact i1)
    ·injection d with _ d
     subst d;exact i1
   case loop live objs body =>
    rw [yb] at h;obtain ⟨⟨e1,s1⟩,f,d⟩:=h;have i1:=g _ _ _ _ f;cases e1 <;> simp only [zpZ] at d
    case normal =>
     rw [yb] at d;obtain ⟨s2,d,j⟩:=d;have i2:=zjb d;have i3:=g _ _ _ _ j;exact ⟨i3.1.trans (i2.1.trans i1.1),i3.2.trans (i2.2.trans i1.2)⟩
    all_goals
     injection d with d;injection d with _ d;subst d;exact i1
   case scope body => exact g _ _ _ _ h
   case sc body cur =>
    rw [yb] at h;obtain ⟨⟨e1,s1⟩,f,d⟩:=h;have i1:=g _ _ _ _ f;unfold scK at d;split at d
    ·rename_i heq
     injection heq with q1 q2;subst q2;split at d
     ·have i2:=g _ _ _ _ d; exact ⟨i2.1.trans i1.1,i2.2.trans i1.2⟩
     ·injection d with d; injection d with _ d; subst d; exact i1
    ·injection d with d
     injection d with _ d;subst d;exact i1
structure Draws where
 a : List Tmp → Nat → Array Go.Oper → List Oper → Bool
 b : List Tmp → Nat → Array Go.Oper → List (Nat × Nat) → List Oper → Bool
 c : List Tmp → Nat → Go.Code → Spec → Bool
def zv (P : Program) (CD : Draws) (κ : List Tmp) (nt : Nat) : Go.Code → Code → Bool
 | .skip,.skip => true
 | c,.spec sp => CD.c κ nt c sp
 | .region _ ops draw,.regd ps xs => draw && CD.b κ nt ops ps xs
 | .region _ ops draw,.reg xs => if draw then CD.a κ nt ops xs else zkv P κ nt ops [] ops.toList xs
 | .seq a b,.seq a' b' => zv P CD κ nt a a' && zv P CD κ nt b b'
 | .cond c a b,.cond x a' b' => okX κ [] c x && zv P CD κ nt a a' && zv P CD κ nt b b'
 | .block id b,.block id' b' => (id == id') && zv P CD κ nt b b'
 | .loop b,.loop live _ b' => (live.length == κ.length) && zv P CD κ nt b b'
 | .exit id,.exit id' live _ => (id == id') && (live.length == κ.length)
 | .scope b,.scope b' => zv P CD κ nt b b'
 | .label l,.label l' => l == l'
 | .goto l,.goto l' live _ => (l == l') && (live.length == κ.length)
 | .ret,.ret live => live.length == κ.length
 | _,_ => false
def zCV (P : Program) (κ : List Tmp) (nt id : Nat) (gops : Array Go.Oper) (r r1 : R) : Prop:=∀ (g : G) (w : World) (a : Act) (Q : Exit → Act → World → Prop),
 Rel g w r.st → Fr κ [] nt g w r a → (∀ g' w' a' loc',Ext g w r.st g' w' r1.st → Rel g' w' r1.st → Fr κ loc' nt g' w' r1 a' → Q .normal a' w') → (Go.Code.region id gops true).wp P Q a w
structure DrawOk (P : Program) (CD : Draws) : Prop where
 a : ∀ (Cf : zaq),zg3 P Cf → ∀ (κ : List Tmp) (nt id : Nat) (gops : Array Go.Oper) (xs : List Oper),CD.a κ nt gops xs = true → ∀ (r r1 : R),r.rs = [] → steps Cf xs r = some r1 → zCV P κ nt id gops r r1
 b : ∀ (Cf : zaq),zg3 P Cf → ∀ (κ : List Tmp) (nt id : Nat) (gops : Array Go.Oper) (ps : List (Nat × Nat)) (xs : List Oper),CD.b κ nt gops ps xs = true → ∀ (r r1 : R),r.rs = [] → zvN Cf ps xs r = some r1 → zCV P κ nt id gops r r1
 lab : ∀ κ nt c sp,CD.c κ nt c sp = true → ∀ l,Go.findLabel c l = none
 c : ∀ (κ : List Tmp) (nt : Nat) (c : Go.Code) (sp : Spec),CD.c κ nt c sp = true → ∀ (s s1 : St),zu7 sp s = some s1 → ∀ (g : G) (w : World) (a : Act) (Q : Exit → Act → World → Prop),
   Rel g w s.st → Fr κ [] nt g w ⟨[],s.env,s.st,s.base,s.lim⟩ a → (∀ g' w' a',Ext g w s.st g' w' s1.st → Rel g' w' s1.st → Fr κ [] nt g' w' ⟨[],s1.env,s1.st,s1.base,s1.lim⟩ a' → Q .normal a' w') → c.wp P Q a w
section
variable {P : Program} {CD : Draws} {κ : List Tmp} {nt : Nat}
theorem zln (e : DrawOk P CD) : ∀ {c : Go.Code} {ac : Code} {l : Nat},zv P CD κ nt c ac = true → findLabel ac l = none → Go.findLabel c l = none
 | c,.seq a' b',l,h,hf => by
   cases c <;> simp only [zv,yc] at h;rename_i a b;simp only [yd] at h;simp only [findLabel] at hf;split at hf
   ·cases hf
   ·rename_i d
    simp only [Go.findLabel,zln e h.1 d,zln e h.2 hf]
 | c,.label l',l,h,hf => by
   cases c <;> simp only [zv,yc] at h;rename_i f;simp only [beq_iff_eq] at h;subst h;simp only [findLabel] at hf;split at hf
   ·cases hf
   ·rename_i g
    have : (f == l) = false:=(by simpa using g);simp [Go.findLabel,this]
 | c,.skip,l,h,hf => by cases c <;> simp_all [zv,Go.findLabel]
 | c,.reg _,l,h,hf => by cases c <;> simp_all [zv,Go.findLabel]
 | c,.regd _ _,l,h,hf => by cases c <;> simp_all [zv,Go.findLabel]
 | c,.spec sp,l,h,hf => e.lab κ nt c sp (by simpa only [zv] using h) l
 | c,.cond _ _ _,l,h,hf => by cases c <;> simp_all [zv,Go.findLabel]
 | c,.block _ _,l,h,hf => by cases c <;> simp_all [zv,Go.findLabel]
 | c,.loop _ _ _,l,h,hf => by cases c <;> simp_all [zv,Go.findLabel]
 | c,.exit _ _ _,l,h,hf => by cases c <;> simp_all [zv,Go.findLabel]
 | c,.scope _,l,h,hf => by cases c <;> simp_all [zv,Go.findLabel]
 | c,.sc _ _,l,h,hf => by cases c <;> simp_all [zv]
 | c,.goto _ _ _,l,h,hf => by cases c <;> simp_all [zv,Go.findLabel]
 | c,.ret _,l,h,hf => by cases c <;> simp_all [zv,Go.findLabel]
theorem znZ (e : DrawOk P CD) : ∀ {c : Go.Code} {ac ar : Code} {l : Nat},zv P CD κ nt c ac = true → findLabel ac l = some ar → ∃ r,Go.findLabel c l = some r ∧ zv P CD κ nt r ar = true
 | c,.seq a' b',ar,l,h,hf => by
   cases c <;> simp only [zv,yc] at h;rename_i a b;simp only [yd] at h;simp only [findLabel] at hf;split at hf
   ·rename_i rest d
    injection hf with hf;subst hf;obtain ⟨r,f,g⟩:=znZ e h.1 d;exact ⟨.seq r b,by simp only [Go.findLabel,f],by simp [zv,g,h.2]⟩
   ·rename_i d
    obtain ⟨r,f,g⟩:=znZ e h.2 hf;exact ⟨r,by simp only [Go.findLabel,zln e h.1 d,f],g⟩
 | c,.label l',ar,l,h,hf => by
   cases c <;> simp only [zv,yc] at h;rename_i i;simp only [beq_iff_eq] at h;subst h;simp only [findLabel] at hf;split at hf
   ·rename_i he
    injection hf with hf;subst hf;exact ⟨.skip,by simp [Go.findLabel,he],rfl⟩
   ·cases hf
 | c,.skip,_,l,h,hf => by simp [findLabel] at hf
 | c,.reg _,_,l,h,hf => by simp [findLabel] at hf
 | c,.cond _ _ _,_,l,h,hf => by simp [findLabel] at hf
 | c,.block _ _,_,l,h,hf => by simp [findLabel] at hf
 | c,.loop _ _ _,_,l,h,hf => by simp [findLabel] at hf
 | c,.exit _ _ _,_,l,h,hf => by simp [findLabel] at hf
 | c,.scope _,_,l,h,hf => by simp [findLabel] at hf
 | c,.sc _ _,_,l,h,hf => by simp [findLabel] at hf
 | c,.goto _ _ _,_,l,h,hf => by simp [findLabel] at hf
 | c,.ret _,_,l,h,hf => by simp [findLabel] at hf
end
section
variable {P : Program} {a : Act} {w : World} {Q : Exit → Act → World → Prop}
def RL (P : Program) (c : Go.Code) (Q : Exit → Act → World → Prop) (a : Act) (w : World) : Prop :=
 ∀ (b : Frame) (k : List Item) (cs : List Frame),∃ e a' w',Q e a' w' ∧ Arrives P (lone (b.at a (.code c :: .inLoop c :: k)) cs w) b k cs e a' w'
theorem zxW {c : Go.Code} (h : RL P c Q a w) : (Go.Code.loop c).wp P Q a w:=fun b k cs =>
 let ⟨e,a',w',q,r⟩:=h b k cs; ⟨e,a',w',q,.of_steps (.one step_loop) r⟩
theorem zvR {c : Go.Code} (h : c.wp P (Exit.then (RL P c Q) Q) a w) : RL P c Q a w:=by
 intro b k cs;obtain ⟨e,j,i,g,d⟩:=h b (.inLoop c :: k) cs
 cases e with
 | normal =>
   obtain ⟨n,p,o,m,f⟩:=g b k cs;exact ⟨n,p,o,m,.of_steps (Steps.trans d (.one step_inLoop)) f⟩
 | exit id => exact ⟨_,j,i,g,.pass (x:=.inLoop c) rfl (fun _ _ => .inl (by simp)) d⟩
 | goto l => exact ⟨_,j,i,g,.pass (x:=.inLoop c) rfl (fun _ _ => .inl (by simp)) d⟩
 | ret => exact ⟨_,j,i,g,.pass (x:=.inLoop c) rfl (fun _ _ => .inl (by simp)) d⟩
 | panic ch => exact ⟨_,j,i,g,.pass (x:=.inLoop c) rfl (fun _ _ => .inl (by simp)) d⟩
 | outgrown => exact ⟨_,j,i,g,.pass (x:=.inLoop c) rfl (fun _ _ => .inl (by simp)) d⟩
def RS (P : Program) (body : Go.Code) (Q : Exit → Act → World → Prop) (rest : Go.Code) (a : Act) (w : World) : Prop :=
 ∀ (b : Frame) (k : List Item) (cs : List Frame),∃ e a' w',Q e a' w' ∧ Arrives P (lone (b.at a (.code rest :: .inScope body :: k)) cs w) b k cs e a' w'
def Exit.inSc (P : Program) (body : Go.Code) (Q : Exit → Act → World → Prop) : Exit → Act → World → Prop
 | .goto l,a,w => match Go.findLabel body l with
   | some r => RS P body Q r a w
   | none => Q (.goto l) a w
 | e,a,w => Q e a w
theorem zDU {body : Go.Code} (h : RS P body Q body a w) : (Go.Code.scope body).wp P Q a w:=fun b k cs =>
 let ⟨e,a',w',q,r⟩:=h b k cs; ⟨e,a',w',q,.of_steps (.one step_scope) r⟩
theorem zGO {body rest : Go.Code} (h : rest.wp P (Exit.inSc P body Q) a w) : RS P body Q rest a w:=by
 intro b k cs;obtain ⟨e,i,g,d,c⟩:=h b (.inScope body :: k) cs
 cases e with
 | normal => exact ⟨.normal,i,g,d,Steps.trans c (.one step_inScope)⟩
 | exit id => exact ⟨.exit id,i,g,d,fun o n => c o (by simp [exitTo,n])⟩
 | goto l =>
   simp only [Exit.inSc] at d
   cases j : Go.findLabel body l with
   | none =>
     rw [j] at d;exact ⟨.goto l,i,g,d,fun o n => c o (by simp [gotoIn,j,n])⟩
   | some r =>
     rw [j] at d;obtain ⟨p,q,s,m,f⟩:=d b k cs;exact ⟨p,q,s,m,.of_steps (c _ (by simp [gotoIn,j])) f⟩
 | ret => exact ⟨_,i,g,d,c⟩
 | panic ch => exact ⟨_,i,g,d,c⟩
 | outgrown => exact ⟨_,i,g,d,c⟩
end
def zl4 : Ex → Exit
 | .normal => .normal
 | .exit i => .exit i
 | .goto l => .goto l
 | .ret => .ret
section
variable {P : Program} {CD : Draws} {κ : List Tmp} {nt : Nat} {g0 : G} {w0 : World} {σ0 : zd} {T : Nat → Option Entry}
def zFs (g0 : G) (w0 : World) (σ0 : zd) (κ : List Tmp) (nt : Nat) (e : Ex) (s' : St) : Exit → Act → World → Prop:=fun x a w => x = zl4 e ∧ ∃ g,At' g0 w0 σ0 κ nt g w s' a
theorem zpt (J : DrawOk P CD) (C : Clean g0 σ0.length) : ∀ (n : Nat),(∀ m,m < n → zg3 P (zgi T (z6 T m))) →
  (∀ (c : Go.Code) (ac : Code) (s : St) (e : Ex) (B : St),zv P CD κ nt c ac = true → z6 T n ac s = some (e,B) → ∀ g w a,σ0.length ≤ s.base → At' g0 w0 σ0 κ nt g w s a → c.wp P (zFs g0 w0 σ0 κ nt e B) a w) ∧
  (∀ (E gc : Go.Code) (ab ac : Code) (s : St) (e : Ex) (B : St),zv P CD κ nt E ab = true → zv P CD κ nt gc ac = true → z6 T n (.sc ab ac) s = some (e,B) → ∀ g w a,σ0.length ≤ s.base → At' g0 w0 σ0 κ nt g w s a → RS P E (zFs g0 w0 σ0 κ nt e B) gc a w) ∧
  (∀ (E : Go.Code) (live : List Bool) (v : Nat) (ab : Code) (s : St) (e : Ex) (B : St),live.length = κ.length → zv P CD κ nt E ab = true → z6 T n (.loop live v ab) s = some (e,B) → ∀ g w a,σ0.length ≤ s.base → At' g0 w0 σ0 κ nt g w s a → RL P E (zFs g0 w0 σ0 κ nt e B) a w)
 | 0,_ => ⟨fun _ _ _ _ _ _ h => by simp [z6] at h,fun _ _ _ _ _ _ _ _ _ h => by simp [z6] at h,fun _ _ _ _ _ _ _ _ _ h => by simp [z6] at h⟩
 | n + 1,hS => by
   obtain ⟨y,O,R⟩:=zpt J C n fun m hm => hS m (by omega);have I:=hS n (by omega);refine ⟨fun c ac s e B f h g w a q A => ?_,fun E gc ab ac s e B G W h g w a q A => ?_,fun E live v ab s e B K f h g w a q A => ?_⟩
   ·cases ac <;> simp only [z6] at h
    case skip =>
     injection h with h;injection h with k d;subst k d;cases c <;> simp only [zv,yc] at f;exact wp_skip ⟨rfl,g,A⟩
    case label l =>
     injection h with h;injection h with k d;subst k d;cases c <;> simp only [zv,yc] at f;exact wp_label ⟨rfl,g,A⟩
    case ret live =>
     injection h with h;injection h with k d;subst k d;cases c <;> simp only [zv,yc,beq_iff_eq] at f;exact wp_ret ⟨rfl,g,A.ext,A.rel,A.fr.clr f⟩
    case exit id live v =>
     rw [ya] at h;obtain ⟨s1,k,h⟩:=h;injection h with d o;subst d o;cases c <;> simp only [zv,yc,yd,beq_iff_eq] at f;obtain ⟨rfl,K⟩:=f;obtain ⟨g',p⟩:=zpF C q K k A;exact wp_exit ⟨rfl,g',p⟩
    case goto l live v =>
     rw [ya] at h;obtain ⟨s1,k,h⟩:=h;injection h with d o;subst d o;cases c <;> simp only [zv,yc,yd,beq_iff_eq] at f;obtain ⟨rfl,K⟩:=f;obtain ⟨g',p⟩:=zpF C q K k A;exact wp_goto ⟨rfl,g',p⟩
    case reg xs =>
     rw [ya] at h;obtain ⟨r1,k,h⟩:=h;injection h with d o;subst d o
     have z : ∀ g' w' r u,Ext g w s.st g' w' r1.st → Rel g' w' r1.st → Fr κ u nt g' w' r1 r → zFs g0 w0 σ0 κ nt .normal ⟨r1.env,r1.st,s.base,s.lim⟩ .normal r w':=fun g' w' r u H L M =>
      ⟨rfl,g',A.ext.trans H,L,Fr.bare (rs:=r1.rs) (b:=r1.base) (l:=r1.lim) M⟩
     cases c <;> simp only [zv,yc] at f;rename_i id ops draw;cases draw
     ·simp only [yc,if_false] at f
      refine wp_region ?_;rw [List.range_eq_range'];have:=zvy (Q:=zFs g0 w0 σ0 κ nt .normal ⟨r1.env,r1.st,s.base,s.lim⟩) I ops.toList xs 0 (loc:=[]) (fun j => by simp) f k A.rel A.fr z;simpa using this
     ·simp only [if_true] at f
      exact J.a _ I κ nt id ops xs f _ r1 rfl k g w a _ A.rel A.fr z
    case regd ps xs =>
     rw [ya] at h;obtain ⟨r1,k,h⟩:=h;injection h with d o;subst d o
     have z : ∀ g' w' r u,Ext g w s.st g' w' r1.st → Rel g' w' r1.st → Fr κ u nt g' w' r1 r → zFs g0 w0 σ0 κ nt .normal ⟨r1.env,r1.st,s.base,s.lim⟩ .normal r w':=fun g' w' r u H L M =>
      ⟨rfl,g',A.ext.trans H,L,Fr.bare (rs:=r1.rs) (b:=r1.base) (l:=r1.lim) M⟩
     cases c <;> simp only [zv,yc,yd] at f;rename_i id ops draw;obtain ⟨rfl,f⟩:=f;exact J.b _ I κ nt id ops ps xs f _ r1 rfl k g w a _ A.rel A.fr z
    case spec sp =>
     rw [ya] at h;obtain ⟨s1,k,h⟩:=h;injection h with d o;subst d o;have X : CD.c κ nt c sp = true:=(by simpa only [zv] using f);exact J.c κ nt c sp X s s1 k g w a _ A.rel A.fr fun g' w' r H L M => ⟨rfl,g',A.ext.trans H,L,M⟩
    case seq a1 b1 =>
     rw [yb] at h;obtain ⟨⟨e1,s1⟩,k,d⟩:=h;cases c <;> simp only [zv,yc,yd] at f;have i:=zdo T n _ _ _ _ k;refine wp_seq (wp_mono (y _ _ _ _ _ f.1 k g w a q A) fun x r w' D => ?_);obtain ⟨rfl,g',p⟩:=D;cases e1 <;> simp only [zri] at d <;> simp only [zl4,Exit.then]
     case normal => exact y _ _ _ _ _ f.2 d g' w' r (by rw [i.1]; exact q) p
     all_goals
      injection d with d;injection d with d o;subst d o;exact ⟨rfl,g',p⟩
    case cond x a1 b1 =>
     unfold zsM at h;cases c <;> simp only [zv,yc,yd] at f;have Z:=A.fr.get f.1.1;split at h
     ·rename_i t N
      rw [N] at Z;obtain ⟨ev,_⟩:=z7 Z;refine wp_cond_split ev (fun V => ?_) (fun V => ?_)
      ·rw [if_pos V] at h
       exact y _ _ _ _ _ f.1.2 h g w a q A
      ·rw [if_neg (by simp [V])] at h
       exact y _ _ _ _ _ f.2 h g w a q A
     ·cases h
    case block id body =>
     rw [ya] at h;obtain ⟨⟨e1,s1⟩,k,d⟩:=h;cases c <;> simp only [zv,yc,yd,beq_iff_eq] at f;obtain ⟨rfl,f⟩:=f;refine wp_block (wp_mono (y _ _ _ _ _ f k g w a q A) fun x r w' D => ?_);obtain ⟨rfl,g',p⟩:=D;cases e1 <;> simp only [zuu] at d <;> simp only [zl4,Exit.inBlock]
     case exit id' =>
      split at d
      ·rename_i he
       injection d with d o;subst d o;rw [if_pos he];exact ⟨rfl,g',p⟩
      ·rename_i he
       injection d with d o;subst d o;rw [if_neg he];exact ⟨rfl,g',p⟩
     all_goals
      injection d with d o;subst d o;exact ⟨rfl,g',p⟩
    case loop live v body =>
     cases c <;> simp only [zv,yc,yd,beq_iff_eq] at f;refine zxW (zvR ?_);rw [yb] at h;obtain ⟨⟨e1,s1⟩,k,d⟩:=h;have i:=zdo T n _ _ _ _ k;refine wp_mono (y _ _ _ _ _ f.2 k g w a q A) fun x r w' D => ?_;obtain ⟨rfl,g',p⟩:=D;cases e1 <;> simp only [zpZ] at d <;> simp only [zl4,Exit.then]
     case normal =>
      rw [yb] at d;obtain ⟨s2,d,o⟩:=d;obtain ⟨U,Y⟩:=zpF C (by rw [i.1]; exact q) f.1 d p;exact R _ _ _ _ _ _ _ f.1 f.2 o U w' r (by rw [(zjb d).1,i.1]; exact q) Y
     all_goals
      injection d with d;injection d with d o;subst d o;exact ⟨rfl,g',p⟩
    case scope body =>
     cases c <;> simp only [zv,yc] at f;exact zDU (O _ _ _ _ _ _ _ f f h g w a q A)
    case sc => cases c <;> simp [zv] at f
   ·simp only [z6] at h
    rw [yb] at h;obtain ⟨⟨e1,s1⟩,k,d⟩:=h;have i:=zdo T n _ _ _ _ k;refine zGO (wp_mono (y _ _ _ _ _ W k g w a q A) fun x r w' D => ?_);obtain ⟨rfl,g',p⟩:=D;cases e1 <;> simp only [scK] at d <;> simp only [zl4,Exit.inSc]
    case goto l =>
     cases S : findLabel ab l with
     | none =>
       rw [S] at d;rw [zln J G S];injection d with d;injection d with d o;subst d o;exact ⟨rfl,g',p⟩
     | some ar =>
       rw [S] at d;obtain ⟨rr,q1,q2⟩:=znZ J G S;rw [q1];exact O _ _ _ _ _ _ _ G q2 d g' w' r (by rw [i.1]; exact q) p
    all_goals
     injection d with d;injection d with d o;subst d o;exact ⟨rfl,g',p⟩
   ·simp only [z6] at h
    refine zvR ?_;rw [yb] at h;obtain ⟨⟨e1,s1⟩,k,d⟩:=h;have i:=zdo T n _ _ _ _ k;refine wp_mono (y _ _ _ _ _ f k g w a q A) fun x r w' D => ?_;obtain ⟨rfl,g',p⟩:=D;cases e1 <;> simp only [zpZ] at d <;> simp only [zl4,Exit.then]
    case normal =>
     rw [yb] at d;obtain ⟨s2,d,o⟩:=d;obtain ⟨U,Y⟩:=zpF C (by rw [i.1]; exact q) K d p;exact R _ _ _ _ _ _ _ K f o U w' r (by rw [(zjb d).1,i.1]; exact q) Y
    all_goals
     injection d with d;injection d with d o;subst d o;exact ⟨rfl,g',p⟩
end
def zj7 (P : Program) (κ : List Tmp) : List ResultVar → List (Nat × Option (Option Nat)) → Bool
 | [],[] => true
 | .tmp t :: rs,(i,none) :: xs => (κ[i]? == some t) && zj7 P κ rs xs
 | .cell t ty :: rs,(i,some sz) :: xs => (κ[i]? == some t) && zG3 P ty sz && zj7 P κ rs xs
 | _,_ => false
def zj9 : List Nat → Bool
 | [] => true
 | x :: xs => !xs.contains x && zj9 xs
theorem zmS : ∀ {xs : List Nat},zj9 xs = true → xs.Nodup
 | [],_ => List.nodup_nil
 | x :: xs,h => by
   simp only [zj9,yd,Bool.not_eq_true'] at h;exact List.nodup_cons.2 ⟨by simpa using h.1,zmS h.2⟩
def zx3 (P : Program) (CD : Draws) (κ : List Tmp) (gf : Func) (fn : Fun) : Bool :=
 (match gf.body with
  | some c => zv P CD κ gf.ntmps c fn.body
  | none => false) &&
 zj9 κ && κ.all (fun t => decide (t < gf.ntmps)) && κ.length == fn.nslots && decide (fn.np ≤ fn.nslots) && decide (fn.np ≤ gf.ntmps) && (κ.take fn.np == yp fn.np) && zj7 P κ gf.results.toList fn.results
def zzs (P : Program) (CD : Draws) (T : Nat → Option Entry) : Prop:=∀ f,
 (∀ fn, T f = some (.fn fn) → ∃ gf κ, P.funcs[f]? = some gf ∧ (gf.name == "runtime.NumGoroutine") = false ∧ zx3 P CD κ gf fn = true) ∧
 (∀ ext,T f = some (.ext ext) → ∀ args σ v σ',ext args σ = some (v,σ') → Enters P f ∧ ∀ g w us,Rel g w σ → zO g w σ args us → Calls P f us.toArray w fun e w' => ∃ u g',e = .returned u ∧ zh g' w' σ' v u ∧ Rel g' w' σ' ∧ Ext g w σ g' w' σ')
section
variable {P : Program} {CD : Draws} {κ : List Tmp} {nt : Nat} {g : G} {w : World} {σ : zd} {T : Nat → Option Entry} {a : Act}
theorem zwI {t : TypeId} {x : Operand} {u : Value} (h : (execOp a.eval { (default : Go.Oper) with op:=.load t x }).run P w = .ok (.value u) w) : ∃ ad,a.eval x = .pointer (some ad) ∧ (loadVar t ad).run P w = .ok u w ∨ ¬ ∃ ad,a.eval x = .pointer (some ad):=by
 by_cases b : ∃ ad,a.eval x = .pointer (some ad)
 ·obtain ⟨ad,b⟩:=b
  refine ⟨ad,.inl ⟨b,?_⟩⟩;unfold execOp at h;simp only [b] at h;simp only [Instr.loadAt,Instr.sureAddr,Sem.run_bind,Sem.run_pure,Result.andThen_ok] at h
  cases c : (loadVar t ad).run P w with
  | ok v w1 =>
    rw [c] at h;simp only [Result.andThen_ok] at h;injection h with h1 h2;injection h1 with h1;rw [h1,h2]
  | halt x w1 =>
    rw [c] at h;simp [Result.andThen] at h
 ·exact ⟨⟨0,0,none⟩,.inr b⟩
def zxY (tmps : Array Value) : ResultVar → Sem Value
 | .tmp t => pure (tmps.getD t undef)
 | .cell ad t => do loadVar t (← asAddr (tmps.getD ad undef))
theorem zzu (gf : Func) (tmps : Array Value) : results gf tmps = (do
  let vs ← gf.results.mapM (zxY tmps)
  pure (if h : vs.size = 1 then vs[0] else .tuple vs)):=by
 unfold results
 congr 1
theorem zvO {r : R} (y : Rel g w r.st) (F : Fr κ [] nt g w r a) : ∀ {rs : List ResultVar} {xs : List (Nat × Option (Option Nat))} {raw : Bool} {lim : Nat} {vs : List V},zj7 P κ rs xs = true → outs raw lim r.st r.env xs = some vs →
  ∃ us v0s,(rs.mapM (zxY a.tmps)).run P w = .ok us w ∧ zO g w r.st v0s us ∧ v0s.length = vs.length ∧ ∀ (i : Nat) (v : V),vs[i]? = some v → ∃ v0,v0s[i]? = some v0 ∧ zBr raw lim r.st v0 = some v
 | [],[],raw,lim,vs,_,h => by
   simp only [outs,Option.some.injEq] at h;subst h;exact ⟨[],[],by simp,by simp only [zO],rfl,fun i v h => by simp at h⟩
 | .tmp t :: rs,(i,none) :: xs,raw,lim,vs,hc,h => by
   simp only [zj7,yd,beq_iff_eq] at hc;simp only [outs] at h;obtain ⟨v,p,l,z,rfl⟩:=zgo h;obtain ⟨us,v0s,x,s,n,q⟩:=zvO y F hc.2 z;simp only [zuD,yk] at l;refine ⟨a.tmps.getD t undef :: us,r.env.getD i vun :: v0s,by simp [ym,zxY,x],by simp only [zO]; exact ⟨_,_,rfl,F.env i t hc.1,s⟩,by simp [n],fun j v' b => ?_⟩
   cases j with
   | zero => simp at b; subst b; exact ⟨_,by simp,l⟩
   | succ j => simpa using q j v' (by simpa using b)
 | .cell t ty :: rs,(i,some sz) :: xs,raw,lim,vs,hc,h => by
   simp only [zj7,yd,beq_iff_eq] at hc;simp only [outs] at h;obtain ⟨v,p,l,z,rfl⟩:=zgo h;obtain ⟨us,v0s,x,s,n,q⟩:=zvO y F hc.2 z;rw [yb] at l;obtain ⟨v0,c,A⟩:=l;simp only [zuD] at c;have k : zh g w r.st (r.env.getD i vun) (a.eval (.tmp t)):=F.env i t hc.1.1;obtain ⟨u,C,B⟩:=zxK (P:=P) (o:={ (default : Go.Oper) with op:=.load ty (.tmp t) }) y rfl (zon hc.1.2) k c
   have d : ∃ ad,a.eval (.tmp t) = .pointer (some ad):=by
    unfold ald at c
    split at c <;> first
     | (rename_i he; rw [he] at k; simp only [zh,zF] at k; first | (obtain ⟨_,_,_,_,_,_,ad,e⟩:=k; exact ⟨ad,e⟩) | (obtain ⟨_,_,e,_⟩:=k; exact ⟨_,e⟩))
     | cases c
   obtain ⟨ad,f | m⟩:=zwI C
   ·have he : a.tmps.getD t undef = .pointer (some ad):=f.1
    refine ⟨u :: us,v0 :: v0s,by simp only [ym,zxY,he,asAddr,Sem.run_bind,Sem.run_pure,Result.andThen_ok,f.2,x],by simp only [zO]; exact ⟨_,_,rfl,B,s⟩,by simp [n],fun j v' b => ?_⟩
    cases j with
    | zero => simp at b; subst b; exact ⟨_,by simp,A⟩
    | succ j => simpa using q j v' (by simpa using b)
   ·exact absurd d m
 | [],_ :: _,_,_,_,hc,_ => by simp [zj7] at hc
 | .tmp _ :: _,[],_,_,_,hc,_ => by simp [zj7] at hc
 | .cell _ _ :: _,[],_,_,_,hc,_ => by simp [zj7] at hc
 | .tmp _ :: _,(_,some _) :: _,_,_,_,hc,_ => by simp [zj7] at hc
 | .cell _ _ :: _,(_,none) :: _,_,_,_,hc,_ => by simp [zj7] at hc
theorem zo5 {lim : Nat} (b : σ.length ≤ lim) : ∀ {cs : List C} {xs : List Fz},zjT lim σ cs = some xs → zfR cs = some xs
 | [],xs,h => by simpa only [zjT,zfR] using h
 | c :: cs,xs,h => by
   simp only [zjT] at h;simp only [zfR];unfold zg6 at h ⊢;split at h
   ·rename_i x ys a e
    injection h with h;subst h;rw [zo5 b e]
    have : zyz c = some x:=by
     unfold zDS at a;split at a
     ·split at a
      ·rename_i d
       rw [ya] at a;obtain ⟨_,a,_⟩:=a;rw [yb] at a;obtain ⟨_,a,_⟩:=a;have:=zb a;omega
      ·cases a
     ·exact a
    rw [this]
   ·cases h
theorem zpb (i : Rel g w σ) {lim : Nat} : ∀ {cs : List C} {xs : List Fz} {us : List Value},zjT lim σ cs = some xs → zA g w σ cs us → zA (g.drop lim w) w (σ.take lim) (xs.map C.f) us
 | [],xs,us,h,hr => by
   simp only [zjT,Option.some.injEq] at h;subst h;simpa only [List.map_nil,zA] using hr
 | c :: cs,xs,us,h,hr => by
   simp only [zjT] at h;unfold zg6 at h;split at h
   ·rename_i x ys a s
    injection h with h;subst h;simp only [zA] at hr;obtain ⟨v,vs,rfl,j,m⟩:=hr;simp only [List.map_cons,zA];refine ⟨v,vs,rfl,?_,zpb i s m⟩;unfold zDS at a;split at a
    ·split at a
     ·rename_i id e lo n d
      rw [ya] at a;obtain ⟨ys,a,rfl⟩:=a;simp only [zF];refine zoI i (fun b o h => .inl h) (fun o => ?_) a (by simpa only [zh] using j)
      by_cases k : ∃ sz es,σ[id]? = some (.cells e sz es) ∧ es ≠ []
      ·obtain ⟨sz,es,r,q⟩:=k
       obtain ⟨p,_,arr,t,l,_⟩:=i.ob id _ r q;exact .inl (.inr ⟨(yg.1 l).1,id,d,p⟩)
      ·exact .inr k
     ·cases a
    ·simp only [zF]
     exact zc8 zht _ v (zhy a j)
   ·cases h
theorem zEk {lim : Nat} {raw : Bool} {v0 v : V} {u : Value} (b : σ.length ≤ lim) (h : zBr raw lim σ v0 = some v) (a : zh g w σ v0 u) : zh g w σ v u:=by
 unfold zBr at h;split at h
 ·injection h with h; subst h; exact a
 ·unfold zFo at h
  split at h
  ·split at h
   ·rename_i id c lo n d
    rw [ya] at h;obtain ⟨xs,h,_⟩:=h;rw [yb] at h;obtain ⟨i,h,_⟩:=h;have:=zb h;omega
   ·cases h
  ·injection h with h
   subst h;simp only [zh,zF] at a;simp only [vsl,zh,zF];exact a.1
  ·rw [ya] at h
   obtain ⟨xs,h,rfl⟩:=h;simp only [zh] at a;obtain ⟨us,e,f⟩:=a;simp only [zDc,zh];exact ⟨us,e,zoC (zhV.refl _ _) rfl (zo5 b h) f⟩
  ·injection h with h; subst h; exact a
theorem zDy (f : Rel g w σ) {lim : Nat} {raw : Bool} {v0 v : V} {u : Value} (h : zBr raw lim σ v0 = some v) (a : zh g w σ v0 u) (c : v.lt lim = true) : zh (g.drop lim w) w (σ.take lim) v u:=by
 unfold zBr at h;split at h
 ·injection h with h; subst h; exact zkD _ _ a c
 ·unfold zFo at h
  split at h
  ·split at h
   ·rename_i id e lo n d
    rw [ya] at h;obtain ⟨xs,h,rfl⟩:=h;simp only [vsl,zh,zF];refine zoI f (fun b o h => .inl h) (fun o => ?_) h a
    by_cases i : ∃ sz es,σ[id]? = some (.cells e sz es) ∧ es ≠ []
    ·obtain ⟨sz,es,m,k⟩:=i
     obtain ⟨l,_,arr,t,j,_⟩:=f.ob id _ m k;exact .inl (.inr ⟨(yg.1 j).1,id,d,l⟩)
    ·exact .inr i
   ·cases h
  ·injection h with h
   subst h;simp only [zh,zF] at a;simp only [vsl,zh,zF];exact zc8 zht _ u a.1
  ·rw [ya] at h
   obtain ⟨xs,h,rfl⟩:=h;simp only [zh] at a;obtain ⟨us,p,q⟩:=a;simp only [zDc,zh];exact ⟨us,p,zpb f h q⟩
  ·injection h with h; subst h; exact zkD _ _ a c
theorem zim : ∀ {vs : List V} {us : List Value},zO g w σ vs us → us.length = vs.length
 | [],us,h => by simp only [zO] at h; simp [h]
 | c :: cs,us,h => by
   simp only [zO] at h;obtain ⟨v,vs,rfl,_,a⟩:=h;simp [zim a]
theorem ztZ : ∀ {vs : List V} {us : List Value},us.length = vs.length → (∀ (j : Nat) (c : V) (u : Value),vs[j]? = some c → us[j]? = some u → zh g w σ c u) → zO g w σ vs us
 | [],us,hl,_ => by simp only [zO]; exact List.eq_nil_of_length_eq_zero (by simpa using hl)
 | c :: cs,[],hl,_ => by simp at hl
 | c :: cs,v :: vs,hl,h => by
   simp only [zO];exact ⟨v,vs,rfl,h 0 c v (by simp) (by simp),ztZ (by simpa using hl) fun j c u a hu => h (j + 1) c u (by simpa using a) (by simpa using hu)⟩
theorem zAd {n : Nat} : ∀ {vs : List V} {i : Nat} {v : V},V.lts n vs = true → vs[i]? = some v → v.lt n = true
 | [],_,_,_,h => by simp at h
 | x :: xs,0,v,hl,h => by
   simp only [V.lts,yd] at hl;simp at h;subst h;exact hl.1
 | x :: xs,i + 1,v,hl,h => by
   simp only [V.lts,yd] at hl;exact zAd hl.2 (by simpa using h)
theorem zmI {g0 : G} {w0 : World} {σ0 : zd} {fn : Fun} {gf : Func} {e : Ex} {s : St} {v : V} {σ' : zd} (i : Clean g0 σ0.length) (l : σ0.length ≤ s.lim) (z : zj7 P κ gf.results.toList fn.results = true) (h : leave fn.raw fn.results (e,s) = some (v,σ')) (A : At' g0 w0 σ0 κ nt g w s a) :
  (e = .normal ∨ e = .ret) ∧ a.defers = [] ∧ ∃ u,(results gf a.tmps).run P w = .ok u w ∧ ∃ g',zh g' w σ' v u ∧ Rel g' w σ' ∧ Ext g0 w0 σ0 g' w σ':=by
 have y : (e = .normal ∨ e = .ret) ∧ (outs fn.raw s.lim s.st s.env fn.results).bind (zk3 s.lim s.st) = some (v,σ'):=by
  cases e <;> simp only [leave] at h
  case normal => exact ⟨.inl rfl,h⟩
  case ret => exact ⟨.inr rfl,h⟩
  all_goals cases h
 refine ⟨y.1,A.fr.df,?_⟩;have h:=y.2;rw [yb] at h;obtain ⟨vs,I,b⟩:=h;unfold zk3 at b;rw [ya] at b;obtain ⟨σ2,b,n⟩:=b;injection n with n h4;subst n h4;obtain ⟨us,C,H,o,J,t⟩:=zvO (P:=P) A.rel A.fr z I;have B:=zim o
 have k : (results gf a.tmps).run P w = .ok (if us.length = 1 then us.getD 0 undef else .tuple us.toArray) w:=by
  rw [zzu,Array.mapM_eq_mapM_toList];simp only [Sem.run_bind,Sem.run_map,H];simp only [Result.andThen_ok,Sem.run_pure]
  congr 1
  by_cases h : us.length = 1
  ·match us,h with
   | [x],_ => simp
  ·simp [h]
 have hval : ∀ {g' : G},zO g' w σ2 vs us → zh g' w σ2 (zFm vs) (if us.length = 1 then us.getD 0 undef else .tuple us.toArray):=fun {g'} hv => by
  have D:=zim hv;unfold zFm;split
  ·simp only [zO] at hv
   obtain ⟨x,xs,rfl,m,rfl⟩:=hv;simpa using m
  ·rename_i p
   have : us.length ≠ 1:=fun h => by
    rw [D] at h
    match vs,h with
    | [x],_ => exact p x rfl
   rw [if_neg this];simp only [zh];exact ⟨_,rfl,by simpa using hv⟩
 refine ⟨_,k,?_⟩;unfold zl8 at b;split at b
 ·rename_i hle
  injection b with b;subst b;refine ⟨g,hval (ztZ (by omega) fun j c u i hu => ?_),A.rel,A.ext⟩;obtain ⟨v0,m,q⟩:=t j c i;obtain ⟨E,d,r⟩:=zkg o m;rw [hu] at d;injection d with d;subst d;exact zEk hle q r
 ·split at b
  ·rename_i f
   injection b with b;subst b;simp only [yd] at f;refine ⟨g.drop s.lim w,hval (ztZ (by omega) fun j c u i hu => ?_),zx4 A.rel f.2,zxG A.ext i l⟩;obtain ⟨v0,m,q⟩:=t j c i;obtain ⟨E,d,r⟩:=zkg o m;rw [hu] at d;injection d with d;subst d;exact zDy A.rel q r (zAd f.1 i)
  ·cases b
theorem zmP {gf : Func} {fn : Fun} {args : List V} {us : List Value} (n : Rel g w σ) (f : zO g w σ args us) (c : zj9 κ = true) (a : κ.all (fun t => decide (t < gf.ntmps)) = true) (hlen : κ.length = fn.nslots) (p : fn.np ≤ fn.nslots) (q : fn.np ≤ gf.ntmps) (k : κ.take fn.np = yp fn.np) (o : args.length = fn.np) :
  At' (g.clean σ.length) w σ κ gf.ntmps (g.clean σ.length) w (enter fn args σ) { tmps:=us.toArray ++ yn (gf.ntmps - us.toArray.size) undef,defers:=[] }:=by
 have j:=zim f;refine ⟨Ext.refl _ _ _,zAk n,⟨by simp; omega,by simp [enter]; omega,fun i t b => ?_,fun d t h => by simp at h,fun d t h => by simp at h,zmS c,fun t b => by simpa using List.all_eq_true.1 a t b,rfl⟩⟩
 by_cases e : i < args.length
 ·have : t = i:=by
   have e1 : (κ.take fn.np)[i]? = some t:=(by rw [zjx (by omega)]; exact b);rw [k,List.getElem?_range (by omega)] at e1;injection e1 with e1;exact e1.symm
  subst this
  have e2 : (args ++ yi (fn.nslots - args.length) vun).getD t vun = args[t]:=by
   rw [yf,List.getElem?_append_left e,yh e];rfl
  show zh (g.clean σ.length) w σ ((args ++ yi (fn.nslots - args.length) vun).getD t vun) _
  rw [e2];obtain ⟨u,m,l⟩:=zkg f (yh e)
  have e3 : (us.toArray ++ yn (gf.ntmps - us.toArray.size) undef).getD t undef = u:=by
   rw [ye,Array.getElem?_append_left (by simp; omega)];simp [m]
  rw [e3];exact zgf (g:=g) (g':=g.clean σ.length) rfl rfl rfl _ _ l
 ·have e2 : (args ++ yi (fn.nslots - args.length) vun).getD i vun = vun:=by
   rw [yf,List.getElem?_append_right (by omega),List.getElem?_replicate];split <;> rfl
  show zh (g.clean σ.length) w σ ((args ++ yi (fn.nslots - args.length) vun).getD i vun) _
  rw [e2];simp only [vun,zh,zF]
theorem zFM (H : DrawOk P CD) (A : zzs P CD T) (n : Nat) : zg3 P (zgi T (z6 T n)):=by
 induction n using Nat.strongRecOn with
 | _ n ih =>
   intro f args σ v σ' h;unfold zgi at h;split at h
   ·rename_i fn p
    split at h
    ·rename_i r
     obtain ⟨gf,κ,m,j,b⟩:=(A f).1 fn p;unfold zx3 at b;simp only [yd,beq_iff_eq,decide_eq_true_eq] at b;obtain ⟨⟨⟨⟨⟨⟨⟨t,W⟩,B⟩,L⟩,K⟩,D⟩,C⟩,I⟩:=b;split at t
     ·rename_i c a
      refine ⟨⟨gf,c,m,j,a⟩,fun g w us S E => ?_⟩;rw [yb] at h;obtain ⟨⟨e,s⟩,hex,d⟩:=h;have J:=zmP (gf:=gf) S E W B L K D C r;have k:=zdo T n _ _ _ _ hex;have l:=(zpt (T:=T) (g0:=g.clean σ.length) (w0:=w) (σ0:=σ) (κ:=κ) (nt:=gf.ntmps) H (zgs g σ.length) n ih).1 c fn.body _ e s t hex _ _ _ (Nat.le_refl _) J;refine calls_of_wp m a (wp_mono l fun x y w' R => ?_);obtain ⟨rfl,g',N⟩:=R;obtain ⟨Q,M,u,V,q,U,O,z⟩:=zmI (gf:=gf) (zgs g σ.length) (by rw [k.2]; exact Nat.le_add_right _ _) I d N
      have i : y.defers = [] ∧ ∃ v1,(results gf y.tmps).run P w' = .ok v1 w' ∧ ∃ u g',(Ending.returned v1) = .returned u ∧ zh g' w' σ' v u ∧ Rel g' w' σ' ∧ Ext g w σ g' w' σ' :=
       ⟨M,u,V,u,G.under g w q,rfl,zgf (g:=q) (g':=G.under g w q) rfl rfl rfl _ _ U,zqO z O,zqa z⟩
      rcases Q with rfl | rfl
      ·exact i
      ·exact i
     ·cases t
    ·cases h
   ·rename_i ext o
    exact (A f).2 ext o args σ v σ' h
   ·cases h
theorem sound (c : DrawOk P CD) (a : zzs P CD T) : zg3 P (call T):=fun f args σ v σ' h => by
 obtain ⟨n,b⟩:=zth h;exact zFM c a n f args σ v σ' b
end
end Go.A
