/- A part of the proof of SchedFlat. Conditions: none. -/
import Derived.Test.YtmkncmffaaninaaGreatFAI
set_option linter.all false
open Option renaming map_eq_some_iff → ya,bind_eq_some_iff → yb
open Bool renaming false_eq_true → yc,and_eq_true → yd
open List renaming getD_eq_getElem?_getD → ye,getElem?_eq_getElem → yg,replicate → yh,mapM_cons → yi,range → yk
open Array renaming getElem?_eq_some_iff → yf,replicate → yj
namespace Go.A
theorem zh5 {s b : St} {live : List Bool} {a : Nat} (h : s.clear live a = some b) : b.base = s.base ∧ b.lim = s.lim:=by
 unfold St.clear at h;rw [ya] at h;obtain ⟨σ',_,rfl⟩:=h;exact ⟨rfl,rfl⟩
theorem zyB {sp : Spec} {s s1 : St} (h : zA2 sp s = some s1) : s1.base = s.base ∧ s1.lim = s.lim:=by
 unfold zA2 at h;rw [yb] at h;obtain ⟨r,_,h⟩:=h;unfold zCF at h;split at h
 ·split at h
  ·cases h
  ·simp only [yb,ya] at h
   obtain ⟨es,_,ds,_,a,_,h⟩:=h;subst h;exact ⟨rfl,rfl⟩
 ·cases h
theorem zdr (T : Nat → Option Entry) : ∀ (n : Nat) (c : Code) (s : St) (e : Ex) (i : St),zO T n c s = some (e,i) → i.base = s.base ∧ i.lim = s.lim
 | 0,_,_,_,_,h => by simp [zO] at h
 | n + 1,c,s,e,i,h => by
   have g:=zdr T n;cases c <;> simp only [zO] at h
   case skip => injection h with h; injection h with f d; subst d; exact ⟨rfl,rfl⟩
   case label => injection h with h; injection h with f d; subst d; exact ⟨rfl,rfl⟩
   case ret => injection h with h; injection h with f d; subst d; exact ⟨rfl,rfl⟩
   case reg ops =>
    rw [ya] at h;obtain ⟨r,_,h⟩:=h;injection h with f d;subst d;exact ⟨rfl,rfl⟩
   case regd ps ops =>
    rw [ya] at h;obtain ⟨r,_,h⟩:=h;injection h with f d;subst d;exact ⟨rfl,rfl⟩
   case spec sp =>
    rw [ya] at h;obtain ⟨s1,f,h⟩:=h;injection h with _ d;subst d;exact zyB f
   case exit id live objs =>
    rw [ya] at h;obtain ⟨s1,f,h⟩:=h;injection h with _ d;subst d;exact zh5 f
   case goto id live objs =>
    rw [ya] at h;obtain ⟨s1,f,h⟩:=h;injection h with _ d;subst d;exact zh5 f
   case seq a b =>
    rw [yb] at h;obtain ⟨⟨e1,s1⟩,f,d⟩:=h;have i1:=g a s e1 s1 f;cases e1 <;> simp only [zqo] at d
    case normal => have i2:=g b s1 e i d; exact ⟨i2.1.trans i1.1,i2.2.trans i1.2⟩
    all_goals
     injection d with d;injection d with _ d;subst d;exact i1
   case cond x a b =>
    unfold zsB at h;split at h
    ·split at h
     ·exact g _ _ _ _ h
     ·exact g _ _ _ _ h
    ·cases h
   case block id body =>
    rw [ya] at h;obtain ⟨⟨e1,s1⟩,f,d⟩:=h;have i1:=g _ _ _ _ f;unfold zt3 at d;split at d
    ·rename_i heq
     injection heq with q1 q2;subst q2;split at d <;> (injection d with _ d; subst d; exact i1)
    ·injection d with _ d
     subst d;exact i1
   case loop live objs body =>
    rw [yb] at h;obtain ⟨⟨e1,s1⟩,f,d⟩:=h;have i1:=g _ _ _ _ f;cases e1 <;> simp only [zqm] at d
    case normal =>
     rw [yb] at d;obtain ⟨s2,d,j⟩:=d;have i2:=zh5 d;have i3:=g _ _ _ _ j;exact ⟨i3.1.trans (i2.1.trans i1.1),i3.2.trans (i2.2.trans i1.2)⟩
    all_goals
     injection d with d;injection d with _ d;subst d;exact i1
   case scope body => exact g _ _ _ _ h
   case sc body cur =>
    rw [yb] at h;obtain ⟨⟨e1,s1⟩,f,d⟩:=h;have i1:=g _ _ _ _ f;unfold scK at d;split at d
    ·rename_i heq
     injection heq with q1 q2;subst q2;split at d
     ·have i2:=g _ _ _ _ d; exact ⟨i2.1.trans i1.1,i2.2.trans i1.2⟩
     ·injection d with d; injection d with _ d; subst d; exact i1
    ·injection d with d
     injection d with _ d;subst d;exact i1
structure Draws where
 a : List Tmp → Nat → Array Go.Oper → List Oper → Bool
 b : List Tmp → Nat → Array Go.Oper → List (Nat × Nat) → List Oper → Bool
 c : List Tmp → Nat → Go.Code → Spec → Bool
def zq (P : Program) (CD : Draws) (κ : List Tmp) (nt : Nat) : Go.Code → Code → Bool
 | .skip,.skip => true
 | c,.spec sp => CD.c κ nt c sp
 | .region _ ops draw,.regd ps xs => draw && CD.b κ nt ops ps xs
 | .region _ ops draw,.reg xs => if draw then CD.a κ nt ops xs else zq5 P κ nt ops [] ops.toList xs
 | .seq a b,.seq a' b' => zq P CD κ nt a a' && zq P CD κ nt b b'
 | .cond c a b,.cond x a' b' => okX κ [] c x && zq P CD κ nt a a' && zq P CD κ nt b b'
 | .block id b,.block id' b' => (id == id') && zq P CD κ nt b b'
 | .loop b,.loop live _ b' => (live.length == κ.length) && zq P CD κ nt b b'
 | .exit id,.exit id' live _ => (id == id') && (live.length == κ.length)
 | .scope b,.scope b' => zq P CD κ nt b b'
 | .label l,.label l' => l == l'
 | .goto l,.goto l' live _ => (l == l') && (live.length == κ.length)
 | .ret,.ret live => live.length == κ.length
 | _,_ => false
def zAr (P : Program) (κ : List Tmp) (nt id : Nat) (gops : Array Go.Oper) (r r1 : R) : Prop:=∀ (g : G) (w : World) (a : Act) (Q : Exit → Act → World → Prop),
 Rel g w r.st → Fr κ [] nt g w r a → (∀ g' w' a' loc',Ext g w r.st g' w' r1.st → Rel g' w' r1.st → Fr κ loc' nt g' w' r1 a' → Q .normal a' w') → (Go.Code.region id gops true).wp P Q a w
structure DrawOk (P : Program) (CD : Draws) : Prop where
 a : ∀ (Cf : zae),zhg P Cf → ∀ (κ : List Tmp) (nt id : Nat) (gops : Array Go.Oper) (xs : List Oper),CD.a κ nt gops xs = true → ∀ (r r1 : R),r.rs = [] → steps Cf xs r = some r1 → zAr P κ nt id gops r r1
 b : ∀ (Cf : zae),zhg P Cf → ∀ (κ : List Tmp) (nt id : Nat) (gops : Array Go.Oper) (ps : List (Nat × Nat)) (xs : List Oper),CD.b κ nt gops ps xs = true → ∀ (r r1 : R),r.rs = [] → zxw Cf ps xs r = some r1 → zAr P κ nt id gops r r1
 lab : ∀ κ nt c sp,CD.c κ nt c sp = true → ∀ l,Go.findLabel c l = none
 c : ∀ (κ : List Tmp) (nt : Nat) (c : Go.Code) (sp : Spec),CD.c κ nt c sp = true → ∀ (s s1 : St),zA2 sp s = some s1 → ∀ (g : G) (w : World) (a : Act) (Q : Exit → Act → World → Prop),
   Rel g w s.st → Fr κ [] nt g w ⟨[],s.env,s.st,s.base,s.lim⟩ a → (∀ g' w' a',Ext g w s.st g' w' s1.st → Rel g' w' s1.st → Fr κ [] nt g' w' ⟨[],s1.env,s1.st,s1.base,s1.lim⟩ a' → Q .normal a' w') → c.wp P Q a w
section
variable {P : Program} {CD : Draws} {κ : List Tmp} {nt : Nat}
theorem zkm (d : DrawOk P CD) : ∀ {c : Go.Code} {ac : Code} {l : Nat},zq P CD κ nt c ac = true → findLabel ac l = none → Go.findLabel c l = none
 | c,.seq a' b',l,h,hf => by
   cases c <;> simp only [zq,yc] at h;rename_i a b;simp only [yd] at h;simp only [findLabel] at hf;split at hf
   ·cases hf
   ·rename_i g
    simp only [Go.findLabel,zkm d h.1 g,zkm d h.2 hf]
 | c,.label l',l,h,hf => by
   cases c <;> simp only [zq,yc] at h;rename_i e;simp only [beq_iff_eq] at h;subst h;simp only [findLabel] at hf;split at hf
   ·cases hf
   ·rename_i f
    have : (e == l) = false:=(by simpa using f);simp [Go.findLabel,this]
 | c,.skip,l,h,hf => by cases c <;> simp_all [zq,Go.findLabel]
 | c,.reg _,l,h,hf => by cases c <;> simp_all [zq,Go.findLabel]
 | c,.regd _ _,l,h,hf => by cases c <;> simp_all [zq,Go.findLabel]
 | c,.spec sp,l,h,hf => d.lab κ nt c sp (by simpa only [zq] using h) l
 | c,.cond _ _ _,l,h,hf => by cases c <;> simp_all [zq,Go.findLabel]
 | c,.block _ _,l,h,hf => by cases c <;> simp_all [zq,Go.findLabel]
 | c,.loop _ _ _,l,h,hf => by cases c <;> simp_all [zq,Go.findLabel]
 | c,.exit _ _ _,l,h,hf => by cases c <;> simp_all [zq,Go.findLabel]
 | c,.scope _,l,h,hf => by cases c <;> simp_all [zq,Go.findLabel]
 | c,.sc _ _,l,h,hf => by cases c <;> simp_all [zq]
 | c,.goto _ _ _,l,h,hf => by cases c <;> simp_all [zq,Go.findLabel]
 | c,.ret _,l,h,hf => by cases c <;> simp_all [zq,Go.findLabel]
theorem zmW (f : DrawOk P CD) : ∀ {c : Go.Code} {ac ar : Code} {l : Nat},zq P CD κ nt c ac = true → findLabel ac l = some ar → ∃ r,Go.findLabel c l = some r ∧ zq P CD κ nt r ar = true
 | c,.seq a' b',ar,l,h,hf => by
   cases c <;> simp only [zq,yc] at h;rename_i a b;simp only [yd] at h;simp only [findLabel] at hf;split at hf
   ·rename_i rest d
    injection hf with hf;subst hf;obtain ⟨r,e,g⟩:=zmW f h.1 d;exact ⟨.seq r b,by simp only [Go.findLabel,e],by simp [zq,g,h.2]⟩
   ·rename_i d
    obtain ⟨r,e,g⟩:=zmW f h.2 hf;exact ⟨r,by simp only [Go.findLabel,zkm f h.1 d,e],g⟩
 | c,.label l',ar,l,h,hf => by
   cases c <;> simp only [zq,yc] at h;rename_i i;simp only [beq_iff_eq] at h;subst h;simp only [findLabel] at hf;split at hf
   ·rename_i he
    injection hf with hf;subst hf;exact ⟨.skip,by simp [Go.findLabel,he],rfl⟩
   ·cases hf
 | c,.skip,_,l,h,hf => by simp [findLabel] at hf
 | c,.reg _,_,l,h,hf => by simp [findLabel] at hf
 | c,.cond _ _ _,_,l,h,hf => by simp [findLabel] at hf
 | c,.block _ _,_,l,h,hf => by simp [findLabel] at hf
 | c,.loop _ _ _,_,l,h,hf => by simp [findLabel] at hf
 | c,.exit _ _ _,_,l,h,hf => by simp [findLabel] at hf
 | c,.scope _,_,l,h,hf => by simp [findLabel] at hf
 | c,.sc _ _,_,l,h,hf => by simp [findLabel] at hf
 | c,.goto _ _ _,_,l,h,hf => by simp [findLabel] at hf
 | c,.ret _,_,l,h,hf => by simp [findLabel] at hf
end
section
variable {P : Program} {a : Act} {w : World} {Q : Exit → Act → World → Prop}
def RL (P : Program) (c : Go.Code) (Q : Exit → Act → World → Prop) (a : Act) (w : World) : Prop :=
 ∀ (b : Frame) (k : List Item) (cs : List Frame),∃ e a' w',Q e a' w' ∧ Arrives P (lone (b.at a (.code c :: .inLoop c :: k)) cs w) b k cs e a' w'
theorem zCb {c : Go.Code} (h : RL P c Q a w) : (Go.Code.loop c).wp P Q a w:=fun b k cs =>
 let ⟨e,a',w',q,r⟩:=h b k cs; ⟨e,a',w',q,.of_steps (.one step_loop) r⟩
theorem zyd {c : Go.Code} (h : c.wp P (Exit.then (RL P c Q) Q) a w) : RL P c Q a w:=by
 intro b k cs;obtain ⟨e,i,j,g,d⟩:=h b (.inLoop c :: k) cs
 cases e with
 | normal =>
   obtain ⟨n,o,p,m,f⟩:=g b k cs;exact ⟨n,o,p,m,.of_steps (Steps.trans d (.one step_inLoop)) f⟩
 | exit id => exact ⟨_,i,j,g,.pass (x:=.inLoop c) rfl (fun _ _ => .inl (by simp)) d⟩
 | goto l => exact ⟨_,i,j,g,.pass (x:=.inLoop c) rfl (fun _ _ => .inl (by simp)) d⟩
 | ret => exact ⟨_,i,j,g,.pass (x:=.inLoop c) rfl (fun _ _ => .inl (by simp)) d⟩
 | panic ch => exact ⟨_,i,j,g,.pass (x:=.inLoop c) rfl (fun _ _ => .inl (by simp)) d⟩
 | outgrown => exact ⟨_,i,j,g,.pass (x:=.inLoop c) rfl (fun _ _ => .inl (by simp)) d⟩
def RS (P : Program) (body : Go.Code) (Q : Exit → Act → World → Prop) (rest : Go.Code) (a : Act) (w : World) : Prop :=
 ∀ (b : Frame) (k : List Item) (cs : List Frame),∃ e a' w',Q e a' w' ∧ Arrives P (lone (b.at a (.code rest :: .inScope body :: k)) cs w) b k cs e a' w'
def Exit.inSc (P : Program) (body : Go.Code) (Q : Exit → Act → World → Prop) : Exit → Act → World → Prop
 | .goto l,a,w => match Go.findLabel body l with
   | some r => RS P body Q r a w
   | none => Q (.goto l) a w
 | e,a,w => Q e a w
theorem zCj {body : Go.Code} (h : RS P body Q body a w) : (Go.Code.scope body).wp P Q a w:=fun b k cs =>
 let ⟨e,a',w',q,r⟩:=h b k cs; ⟨e,a',w',q,.of_steps (.one step_scope) r⟩
theorem zDK {body rest : Go.Code} (h : rest.wp P (Exit.inSc P body Q) a w) : RS P body Q rest a w:=by
 intro b k cs;obtain ⟨e,i,g,d,c⟩:=h b (.inScope body :: k) cs
 cases e with
 | normal => exact ⟨.normal,i,g,d,Steps.trans c (.one step_inScope)⟩
 | exit id => exact ⟨.exit id,i,g,d,fun n m => c n (by simp [exitTo,m])⟩
 | goto l =>
   simp only [Exit.inSc] at d
   cases j : Go.findLabel body l with
   | none =>
     rw [j] at d;exact ⟨.goto l,i,g,d,fun n m => c n (by simp [gotoIn,j,m])⟩
   | some r =>
     rw [j] at d;obtain ⟨s,p,q,o,f⟩:=d b k cs;exact ⟨s,p,q,o,.of_steps (c _ (by simp [gotoIn,j])) f⟩
 | ret => exact ⟨_,i,g,d,c⟩
 | panic ch => exact ⟨_,i,g,d,c⟩
 | outgrown => exact ⟨_,i,g,d,c⟩
end
def zk4 : Ex → Exit
 | .normal => .normal
 | .exit i => .exit i
 | .goto l => .goto l
 | .ret => .ret
section
variable {P : Program} {CD : Draws} {κ : List Tmp} {nt : Nat} {g0 : G} {w0 : World} {σ0 : zd} {T : Nat → Option Entry}
def zCT (g0 : G) (w0 : World) (σ0 : zd) (κ : List Tmp) (nt : Nat) (e : Ex) (s' : St) : Exit → Act → World → Prop:=fun x a w => x = zk4 e ∧ ∃ g,At' g0 w0 σ0 κ nt g w s' a
theorem zol (K : DrawOk P CD) (B : Clean g0 σ0.length) : ∀ (n : Nat),(∀ m,m < n → zhg P (zfI T (zO T m))) →
  (∀ (c : Go.Code) (ac : Code) (s : St) (e : Ex) (C : St),zq P CD κ nt c ac = true → zO T n ac s = some (e,C) → ∀ g w a,σ0.length ≤ s.base → At' g0 w0 σ0 κ nt g w s a → c.wp P (zCT g0 w0 σ0 κ nt e C) a w) ∧
  (∀ (E gc : Go.Code) (ab ac : Code) (s : St) (e : Ex) (C : St),zq P CD κ nt E ab = true → zq P CD κ nt gc ac = true → zO T n (.sc ab ac) s = some (e,C) → ∀ g w a,σ0.length ≤ s.base → At' g0 w0 σ0 κ nt g w s a → RS P E (zCT g0 w0 σ0 κ nt e C) gc a w) ∧
  (∀ (E : Go.Code) (live : List Bool) (y : Nat) (ab : Code) (s : St) (e : Ex) (C : St),live.length = κ.length → zq P CD κ nt E ab = true → zO T n (.loop live y ab) s = some (e,C) → ∀ g w a,σ0.length ≤ s.base → At' g0 w0 σ0 κ nt g w s a → RL P E (zCT g0 w0 σ0 κ nt e C) a w)
 | 0,_ => ⟨fun _ _ _ _ _ _ h => by simp [zO] at h,fun _ _ _ _ _ _ _ _ _ h => by simp [zO] at h,fun _ _ _ _ _ _ _ _ _ h => by simp [zO] at h⟩
 | n + 1,hS => by
   obtain ⟨v,N,L⟩:=zol K B n fun m hm => hS m (by omega);have I:=hS n (by omega);refine ⟨fun c ac s e C f h g w a q A => ?_,fun E gc ab ac s e C G W h g w a q A => ?_,fun E live y ab s e C J f h g w a q A => ?_⟩
   ·cases ac <;> simp only [zO] at h
    case skip =>
     injection h with h;injection h with k d;subst k d;cases c <;> simp only [zq,yc] at f;exact wp_skip ⟨rfl,g,A⟩
    case label l =>
     injection h with h;injection h with k d;subst k d;cases c <;> simp only [zq,yc] at f;exact wp_label ⟨rfl,g,A⟩
    case ret live =>
     injection h with h;injection h with k d;subst k d;cases c <;> simp only [zq,yc,beq_iff_eq] at f;exact wp_ret ⟨rfl,g,A.ext,A.rel,A.fr.clr f⟩
    case exit id live y =>
     rw [ya] at h;obtain ⟨s1,k,h⟩:=h;injection h with d o;subst d o;cases c <;> simp only [zq,yc,yd,beq_iff_eq] at f;obtain ⟨rfl,J⟩:=f;obtain ⟨g',p⟩:=zou B q J k A;exact wp_exit ⟨rfl,g',p⟩
    case goto l live y =>
     rw [ya] at h;obtain ⟨s1,k,h⟩:=h;injection h with d o;subst d o;cases c <;> simp only [zq,yc,yd,beq_iff_eq] at f;obtain ⟨rfl,J⟩:=f;obtain ⟨g',p⟩:=zou B q J k A;exact wp_goto ⟨rfl,g',p⟩
    case reg xs =>
     rw [ya] at h;obtain ⟨r1,k,h⟩:=h;injection h with d o;subst d o
     have z : ∀ g' w' u r,Ext g w s.st g' w' r1.st → Rel g' w' r1.st → Fr κ r nt g' w' r1 u → zCT g0 w0 σ0 κ nt .normal ⟨r1.env,r1.st,s.base,s.lim⟩ .normal u w':=fun g' w' u r H M R =>
      ⟨rfl,g',A.ext.trans H,M,Fr.bare (rs:=r1.rs) (b:=r1.base) (l:=r1.lim) R⟩
     cases c <;> simp only [zq,yc] at f;rename_i id ops draw;cases draw
     ·simp only [yc,if_false] at f
      refine wp_region ?_;rw [List.range_eq_range'];have:=zt7 (Q:=zCT g0 w0 σ0 κ nt .normal ⟨r1.env,r1.st,s.base,s.lim⟩) I ops.toList xs 0 (loc:=[]) (fun j => by simp) f k A.rel A.fr z;simpa using this
     ·simp only [if_true] at f
      exact K.a _ I κ nt id ops xs f _ r1 rfl k g w a _ A.rel A.fr z
    case regd ps xs =>
     rw [ya] at h;obtain ⟨r1,k,h⟩:=h;injection h with d o;subst d o
     have z : ∀ g' w' u r,Ext g w s.st g' w' r1.st → Rel g' w' r1.st → Fr κ r nt g' w' r1 u → zCT g0 w0 σ0 κ nt .normal ⟨r1.env,r1.st,s.base,s.lim⟩ .normal u w':=fun g' w' u r H M R =>
      ⟨rfl,g',A.ext.trans H,M,Fr.bare (rs:=r1.rs) (b:=r1.base) (l:=r1.lim) R⟩
     cases c <;> simp only [zq,yc,yd] at f;rename_i id ops draw;obtain ⟨rfl,f⟩:=f;exact K.b _ I κ nt id ops ps xs f _ r1 rfl k g w a _ A.rel A.fr z
    case spec sp =>
     rw [ya] at h;obtain ⟨s1,k,h⟩:=h;injection h with d o;subst d o;have U : CD.c κ nt c sp = true:=(by simpa only [zq] using f);exact K.c κ nt c sp U s s1 k g w a _ A.rel A.fr fun g' w' u H M R => ⟨rfl,g',A.ext.trans H,M,R⟩
    case seq a1 b1 =>
     rw [yb] at h;obtain ⟨⟨e1,s1⟩,k,d⟩:=h;cases c <;> simp only [zq,yc,yd] at f;have i:=zdr T n _ _ _ _ k;refine wp_seq (wp_mono (v _ _ _ _ _ f.1 k g w a q A) fun x u w' D => ?_);obtain ⟨rfl,g',p⟩:=D;cases e1 <;> simp only [zqo] at d <;> simp only [zk4,Exit.then]
     case normal => exact v _ _ _ _ _ f.2 d g' w' u (by rw [i.1]; exact q) p
     all_goals
      injection d with d;injection d with d o;subst d o;exact ⟨rfl,g',p⟩
    case cond x a1 b1 =>
     unfold zsB at h;cases c <;> simp only [zq,yc,yd] at f;have Z:=A.fr.get f.1.1;split at h
     ·rename_i t O
      rw [O] at Z;obtain ⟨ev,_⟩:=zM Z;refine wp_cond_split ev (fun X => ?_) (fun X => ?_)
      ·rw [if_pos X] at h
       exact v _ _ _ _ _ f.1.2 h g w a q A
      ·rw [if_neg (by simp [X])] at h
       exact v _ _ _ _ _ f.2 h g w a q A
     ·cases h
    case block id body =>
     rw [ya] at h;obtain ⟨⟨e1,s1⟩,k,d⟩:=h;cases c <;> simp only [zq,yc,yd,beq_iff_eq] at f;obtain ⟨rfl,f⟩:=f;refine wp_block (wp_mono (v _ _ _ _ _ f k g w a q A) fun x u w' D => ?_);obtain ⟨rfl,g',p⟩:=D;cases e1 <;> simp only [zt3] at d <;> simp only [zk4,Exit.inBlock]
     case exit id' =>
      split at d
      ·rename_i he
       injection d with d o;subst d o;rw [if_pos he];exact ⟨rfl,g',p⟩
      ·rename_i he
       injection d with d o;subst d o;rw [if_neg he];exact ⟨rfl,g',p⟩
     all_goals
      injection d with d o;subst d o;exact ⟨rfl,g',p⟩
    case loop live y body =>
     cases c <;> simp only [zq,yc,yd,beq_iff_eq] at f;refine zCb (zyd ?_);rw [yb] at h;obtain ⟨⟨e1,s1⟩,k,d⟩:=h;have i:=zdr T n _ _ _ _ k;refine wp_mono (v _ _ _ _ _ f.2 k g w a q A) fun x u w' D => ?_;obtain ⟨rfl,g',p⟩:=D;cases e1 <;> simp only [zqm] at d <;> simp only [zk4,Exit.then]
     case normal =>
      rw [yb] at d;obtain ⟨s2,d,o⟩:=d;obtain ⟨Y,V⟩:=zou B (by rw [i.1]; exact q) f.1 d p;exact L _ _ _ _ _ _ _ f.1 f.2 o Y w' u (by rw [(zh5 d).1,i.1]; exact q) V
     all_goals
      injection d with d;injection d with d o;subst d o;exact ⟨rfl,g',p⟩
    case scope body =>
     cases c <;> simp only [zq,yc] at f;exact zCj (N _ _ _ _ _ _ _ f f h g w a q A)
    case sc => cases c <;> simp [zq] at f
   ·simp only [zO] at h
    rw [yb] at h;obtain ⟨⟨e1,s1⟩,k,d⟩:=h;have i:=zdr T n _ _ _ _ k;refine zDK (wp_mono (v _ _ _ _ _ W k g w a q A) fun x u w' D => ?_);obtain ⟨rfl,g',p⟩:=D;cases e1 <;> simp only [scK] at d <;> simp only [zk4,Exit.inSc]
    case goto l =>
     cases S : findLabel ab l with
     | none =>
       rw [S] at d;rw [zkm K G S];injection d with d;injection d with d o;subst d o;exact ⟨rfl,g',p⟩
     | some ar =>
       rw [S] at d;obtain ⟨rr,q1,q2⟩:=zmW K G S;rw [q1];exact N _ _ _ _ _ _ _ G q2 d g' w' u (by rw [i.1]; exact q) p
    all_goals
     injection d with d;injection d with d o;subst d o;exact ⟨rfl,g',p⟩
   ·simp only [zO] at h
    refine zyd ?_;rw [yb] at h;obtain ⟨⟨e1,s1⟩,k,d⟩:=h;have i:=zdr T n _ _ _ _ k;refine wp_mono (v _ _ _ _ _ f k g w a q A) fun x u w' D => ?_;obtain ⟨rfl,g',p⟩:=D;cases e1 <;> simp only [zqm] at d <;> simp only [zk4,Exit.then]
    case normal =>
     rw [yb] at d;obtain ⟨s2,d,o⟩:=d;obtain ⟨Y,V⟩:=zou B (by rw [i.1]; exact q) J d p;exact L _ _ _ _ _ _ _ J f o Y w' u (by rw [(zh5 d).1,i.1]; exact q) V
    all_goals
     injection d with d;injection d with d o;subst d o;exact ⟨rfl,g',p⟩
end
def zjs (P : Program) (κ : List Tmp) : List ResultVar → List (Nat × Option (Option Nat)) → Bool
 | [],[] => true
 | .tmp t :: rs,(i,none) :: xs => (κ[i]? == some t) && zjs P κ rs xs
 | .cell t ty :: rs,(i,some sz) :: xs => (κ[i]? == some t) && zEf P ty sz && zjs P κ rs xs
 | _,_ => false
def zj2 : List Nat → Bool
 | [] => true
 | x :: xs => !xs.contains x && zj2 xs
theorem zo7 : ∀ {xs : List Nat},zj2 xs = true → xs.Nodup
 | [],_ => List.nodup_nil
 | x :: xs,h => by
   simp only [zj2,yd,Bool.not_eq_true'] at h;exact List.nodup_cons.2 ⟨by simpa using h.1,zo7 h.2⟩
def zv0 (P : Program) (CD : Draws) (κ : List Tmp) (gf : Func) (fn : Fun) : Bool :=
 (match gf.body with
  | some c => zq P CD κ gf.ntmps c fn.body
  | none => false) &&
 zj2 κ && κ.all (fun t => decide (t < gf.ntmps)) && κ.length == fn.nslots && decide (fn.np ≤ fn.nslots) && decide (fn.np ≤ gf.ntmps) && (κ.take fn.np == yk fn.np) && zjs P κ gf.results.toList fn.results
def zw0 (P : Program) (CD : Draws) (T : Nat → Option Entry) : Prop:=∀ f,
 (∀ fn, T f = some (.fn fn) → ∃ gf κ, P.funcs[f]? = some gf ∧ (gf.name == "runtime.NumGoroutine") = false ∧ zv0 P CD κ gf fn = true) ∧
 (∀ ext,T f = some (.ext ext) → ∀ args σ v σ',ext args σ = some (v,σ') → Enters P f ∧ ∀ g w us,Rel g w σ → zz g w σ args us → Calls P f us.toArray w fun e w' => ∃ u g',e = .returned u ∧ zf g' w' σ' v u ∧ Rel g' w' σ' ∧ Ext g w σ g' w' σ')
section
variable {P : Program} {CD : Draws} {κ : List Tmp} {nt : Nat} {g : G} {w : World} {σ : zd} {T : Nat → Option Entry} {a : Act}
theorem zu4 {t : TypeId} {x : Operand} {u : Value} (h : (execOp a.eval { (default : Go.Oper) with op:=.load t x }).run P w = .ok (.value u) w) : ∃ ad,a.eval x = .pointer (some ad) ∧ (loadVar t ad).run P w = .ok u w ∨ ¬ ∃ ad,a.eval x = .pointer (some ad):=by
 by_cases b : ∃ ad,a.eval x = .pointer (some ad)
 ·obtain ⟨ad,b⟩:=b
  refine ⟨ad,.inl ⟨b,?_⟩⟩;unfold execOp at h;simp only [b] at h;simp only [Instr.loadAt,Instr.sureAddr,Sem.run_bind,Sem.run_pure,Result.andThen_ok] at h
  cases c : (loadVar t ad).run P w with
  | ok v w1 =>
    rw [c] at h;simp only [Result.andThen_ok] at h;injection h with h1 h2;injection h1 with h1;rw [h1,h2]
  | halt x w1 =>
    rw [c] at h;simp [Result.andThen] at h
 ·exact ⟨⟨0,0,none⟩,.inr b⟩
def zv7 (tmps : Array Value) : ResultVar → Sem Value
 | .tmp t => pure (tmps.getD t undef)
 | .cell ad t => do loadVar t (← asAddr (tmps.getD ad undef))
theorem zwM (gf : Func) (tmps : Array Value) : results gf tmps = (do
  let vs ← gf.results.mapM (zv7 tmps)
  pure (if h : vs.size = 1 then vs[0] else .tuple vs)):=by
 unfold results
 congr 1
theorem zuD {r : R} (y : Rel g w r.st) (F : Fr κ [] nt g w r a) : ∀ {rs : List ResultVar} {xs : List (Nat × Option (Option Nat))} {raw : Bool} {lim : Nat} {vs : List V},zjs P κ rs xs = true → outs raw lim r.st r.env xs = some vs →
  ∃ us v0s,(rs.mapM (zv7 a.tmps)).run P w = .ok us w ∧ zz g w r.st v0s us ∧ v0s.length = vs.length ∧ ∀ (i : Nat) (v : V),vs[i]? = some v → ∃ v0,v0s[i]? = some v0 ∧ zxX raw lim r.st v0 = some v
 | [],[],raw,lim,vs,_,h => by
   simp only [outs,Option.some.injEq] at h;subst h;exact ⟨[],[],by simp,by simp only [zz],rfl,fun i v h => by simp at h⟩
 | .tmp t :: rs,(i,none) :: xs,raw,lim,vs,hc,h => by
   simp only [zjs,yd,beq_iff_eq] at hc;simp only [outs] at h;obtain ⟨v,q,d,m,rfl⟩:=zfJ h;obtain ⟨us,v0s,s,x,z,n⟩:=zuD y F hc.2 m;simp only [ztl,Option.bind_some] at d;refine ⟨a.tmps.getD t undef :: us,r.env.getD i vun :: v0s,by simp [yi,zv7,s],by simp only [zz]; exact ⟨_,_,rfl,F.env i t hc.1,x⟩,by simp [z],fun j v' b => ?_⟩
   cases j with
   | zero => simp at b; subst b; exact ⟨_,by simp,d⟩
   | succ j => simpa using n j v' (by simpa using b)
 | .cell t ty :: rs,(i,some sz) :: xs,raw,lim,vs,hc,h => by
   simp only [zjs,yd,beq_iff_eq] at hc;simp only [outs] at h;obtain ⟨v,q,d,m,rfl⟩:=zfJ h;obtain ⟨us,v0s,s,x,z,n⟩:=zuD y F hc.2 m;rw [yb] at d;obtain ⟨v0,f,C⟩:=d;simp only [ztl] at f;have c : zf g w r.st (r.env.getD i vun) (a.eval (.tmp t)):=F.env i t hc.1.1;obtain ⟨u,B,A⟩:=zvt (P:=P) (o:={ (default : Go.Oper) with op:=.load ty (.tmp t) }) y rfl (zmU hc.1.2) c f
   have k : ∃ ad,a.eval (.tmp t) = .pointer (some ad):=by
    unfold ald at f
    split at f <;> first
     | (rename_i he; rw [he] at c; simp only [zf,zy] at c; first | (obtain ⟨_,_,_,_,_,_,ad,e⟩:=c; exact ⟨ad,e⟩) | (obtain ⟨_,_,e,_⟩:=c; exact ⟨_,e⟩))
     | cases f
   obtain ⟨ad,l | p⟩:=zu4 B
   ·have he : a.tmps.getD t undef = .pointer (some ad):=l.1
    refine ⟨u :: us,v0 :: v0s,by simp only [yi,zv7,he,asAddr,Sem.run_bind,Sem.run_pure,Result.andThen_ok,l.2,s],by simp only [zz]; exact ⟨_,_,rfl,A,x⟩,by simp [z],fun j v' b => ?_⟩
    cases j with
    | zero => simp at b; subst b; exact ⟨_,by simp,C⟩
    | succ j => simpa using n j v' (by simpa using b)
   ·exact absurd k p
 | [],_ :: _,_,_,_,hc,_ => by simp [zjs] at hc
 | .tmp _ :: _,[],_,_,_,hc,_ => by simp [zjs] at hc
 | .cell _ _ :: _,[],_,_,_,hc,_ => by simp [zjs] at hc
 | .tmp _ :: _,(_,some _) :: _,_,_,_,hc,_ => by simp [zjs] at hc
 | .cell _ _ :: _,(_,none) :: _,_,_,_,hc,_ => by simp [zjs] at hc
theorem zn5 {lim : Nat} (e : σ.length ≤ lim) : ∀ {cs : List C} {xs : List Fz},zja lim σ cs = some xs → zdR cs = some xs
 | [],xs,h => by simpa only [zja,zdR] using h
 | c :: cs,xs,h => by
   simp only [zja] at h;simp only [zdR];unfold zfF at h ⊢;split at h
   ·rename_i x ys a d
    injection h with h;subst h;rw [zn5 e d]
    have : ztr c = some x:=by
     unfold zCw at a;split at a
     ·split at a
      ·rename_i b
       rw [ya] at a;obtain ⟨_,a,_⟩:=a;rw [yb] at a;obtain ⟨_,a,_⟩:=a;have:=zb a;omega
      ·cases a
     ·exact a
    rw [this]
   ·cases h
theorem znE (e : Rel g w σ) {lim : Nat} : ∀ {cs : List C} {xs : List Fz} {us : List Value},zja lim σ cs = some xs → zv g w σ cs us → zv (g.drop lim w) w (σ.take lim) (xs.map C.f) us
 | [],xs,us,h,hr => by
   simp only [zja,Option.some.injEq] at h;subst h;simpa only [List.map_nil,zv] using hr
 | c :: cs,xs,us,h,hr => by
   simp only [zja] at h;unfold zfF at h;split at h
   ·rename_i x ys a l
    injection h with h;subst h;simp only [zv] at hr;obtain ⟨v,vs,rfl,k,q⟩:=hr;simp only [List.map_cons,zv];refine ⟨v,vs,rfl,?_,znE e l q⟩;unfold zCw at a;split at a
    ·split at a
     ·rename_i id i lo n d
      rw [ya] at a;obtain ⟨ys,a,rfl⟩:=a;simp only [zy];refine zm4 e (fun b o h => .inl h) (fun o => ?_) a (by simpa only [zf] using k)
      by_cases j : ∃ sz es,σ[id]? = some (.cells i sz es) ∧ es ≠ []
      ·obtain ⟨sz,es,r,p⟩:=j
       obtain ⟨m,_,arr,t,s,_⟩:=e.ob id _ r p;exact .inl (.inr ⟨(yf.1 s).1,id,d,m⟩)
      ·exact .inr j
     ·cases a
    ·simp only [zy]
     exact zcM zgN _ v (zgM a k)
   ·cases h
theorem zBw {lim : Nat} {raw : Bool} {v0 v : V} {u : Value} (f : σ.length ≤ lim) (h : zxX raw lim σ v0 = some v) (a : zf g w σ v0 u) : zf g w σ v u:=by
 unfold zxX at h;split at h
 ·injection h with h; subst h; exact a
 ·unfold zCV at h
  split at h
  ·split at h
   ·rename_i id c lo n d
    rw [ya] at h;obtain ⟨xs,h,_⟩:=h;rw [yb] at h;obtain ⟨i,h,_⟩:=h;have:=zb h;omega
   ·cases h
  ·injection h with h
   subst h;simp only [zf,zy] at a;simp only [vsl,zf,zy];exact a.1
  ·rw [ya] at h
   obtain ⟨xs,h,rfl⟩:=h;simp only [zf] at a;obtain ⟨us,b,e⟩:=a;simp only [zAN,zf];exact ⟨us,b,znd (zhd.refl _ _) rfl (zn5 f h) e⟩
  ·injection h with h; subst h; exact a
theorem zAT (e : Rel g w σ) {lim : Nat} {raw : Bool} {v0 v : V} {u : Value} (h : zxX raw lim σ v0 = some v) (a : zf g w σ v0 u) (c : v.lt lim = true) : zf (g.drop lim w) w (σ.take lim) v u:=by
 unfold zxX at h;split at h
 ·injection h with h; subst h; exact zjW _ _ a c
 ·unfold zCV at h
  split at h
  ·split at h
   ·rename_i id f lo n d
    rw [ya] at h;obtain ⟨xs,h,rfl⟩:=h;simp only [vsl,zf,zy];refine zm4 e (fun b o h => .inl h) (fun o => ?_) h a
    by_cases i : ∃ sz es,σ[id]? = some (.cells f sz es) ∧ es ≠ []
    ·obtain ⟨sz,es,l,p⟩:=i
     obtain ⟨k,_,arr,t,q,_⟩:=e.ob id _ l p;exact .inl (.inr ⟨(yf.1 q).1,id,d,k⟩)
    ·exact .inr i
   ·cases h
  ·injection h with h
   subst h;simp only [zf,zy] at a;simp only [vsl,zf,zy];exact zcM zgN _ u a.1
  ·rw [ya] at h
   obtain ⟨xs,h,rfl⟩:=h;simp only [zf] at a;obtain ⟨us,m,j⟩:=a;simp only [zAN,zf];exact ⟨us,m,znE e h j⟩
  ·injection h with h; subst h; exact zjW _ _ a c
theorem zhE : ∀ {vs : List V} {us : List Value},zz g w σ vs us → us.length = vs.length
 | [],us,h => by simp only [zz] at h; simp [h]
 | c :: cs,us,h => by
   simp only [zz] at h;obtain ⟨v,vs,rfl,_,a⟩:=h;simp [zhE a]
theorem zsy : ∀ {vs : List V} {us : List Value},us.length = vs.length → (∀ (j : Nat) (c : V) (u : Value),vs[j]? = some c → us[j]? = some u → zf g w σ c u) → zz g w σ vs us
 | [],us,hl,_ => by simp only [zz]; exact List.eq_nil_of_length_eq_zero (by simpa using hl)
 | c :: cs,[],hl,_ => by simp at hl
 | c :: cs,v :: vs,hl,h => by
   simp only [zz];exact ⟨v,vs,rfl,h 0 c v (by simp) (by simp),zsy (by simpa using hl) fun j c u a hu => h (j + 1) c u (by simpa using a) (by simpa using hu)⟩
theorem zAo {n : Nat} : ∀ {vs : List V} {i : Nat} {v : V},V.lts n vs = true → vs[i]? = some v → v.lt n = true
 | [],_,_,_,h => by simp at h
 | x :: xs,0,v,hl,h => by
   simp only [V.lts,yd] at hl;simp at h;subst h;exact hl.1
 | x :: xs,i + 1,v,hl,h => by
   simp only [V.lts,yd] at hl;exact zAo hl.2 (by simpa using h)
theorem zlw {g0 : G} {w0 : World} {σ0 : zd} {fn : Fun} {gf : Func} {e : Ex} {s : St} {v : V} {σ' : zd} (i : Clean g0 σ0.length) (l : σ0.length ≤ s.lim) (C : zjs P κ gf.results.toList fn.results = true) (h : leave fn.raw fn.results (e,s) = some (v,σ')) (A : At' g0 w0 σ0 κ nt g w s a) :
  (e = .normal ∨ e = .ret) ∧ a.defers = [] ∧ ∃ u,(results gf a.tmps).run P w = .ok u w ∧ ∃ g',zf g' w σ' v u ∧ Rel g' w σ' ∧ Ext g0 w0 σ0 g' w σ':=by
 have y : (e = .normal ∨ e = .ret) ∧ (outs fn.raw s.lim s.st s.env fn.results).bind (zmq s.lim s.st) = some (v,σ'):=by
  cases e <;> simp only [leave] at h
  case normal => exact ⟨.inl rfl,h⟩
  case ret => exact ⟨.inr rfl,h⟩
  all_goals cases h
 refine ⟨y.1,A.fr.df,?_⟩;have h:=y.2;rw [yb] at h;obtain ⟨vs,I,b⟩:=h;unfold zmq at b;rw [ya] at b;obtain ⟨σ2,b,o⟩:=b;injection o with o h4;subst o h4;obtain ⟨us,B,H,p,J,t⟩:=zuD (P:=P) A.rel A.fr C I;have z:=zhE p
 have k : (results gf a.tmps).run P w = .ok (if us.length = 1 then us.getD 0 undef else .tuple us.toArray) w:=by
  rw [zwM,Array.mapM_eq_mapM_toList];simp only [Sem.run_bind,Sem.run_map,H];simp only [Result.andThen_ok,Sem.run_pure]
  congr 1
  by_cases h : us.length = 1
  ·match us,h with
   | [x],_ => simp
  ·simp [h]
 have hval : ∀ {g' : G},zz g' w σ2 vs us → zf g' w σ2 (zCH vs) (if us.length = 1 then us.getD 0 undef else .tuple us.toArray):=fun {g'} hv => by
  have D:=zhE hv;unfold zCH;split
  ·simp only [zz] at hv
   obtain ⟨x,xs,rfl,m,rfl⟩:=hv;simpa using m
  ·rename_i r
   have : us.length ≠ 1:=fun h => by
    rw [D] at h
    match vs,h with
    | [x],_ => exact r x rfl
   rw [if_neg this];simp only [zf];exact ⟨_,rfl,by simpa using hv⟩
 refine ⟨_,k,?_⟩;unfold zmg at b;split at b
 ·rename_i hle
  injection b with b;subst b;refine ⟨g,hval (zsy (by omega) fun j c u i hu => ?_),A.rel,A.ext⟩;obtain ⟨v0,m,n⟩:=t j c i;obtain ⟨E,d,q⟩:=zjI p m;rw [hu] at d;injection d with d;subst d;exact zBw hle n q
 ·split at b
  ·rename_i f
   injection b with b;subst b;simp only [yd] at f;refine ⟨g.drop s.lim w,hval (zsy (by omega) fun j c u i hu => ?_),zvF A.rel f.2,zvJ A.ext i l⟩;obtain ⟨v0,m,n⟩:=t j c i;obtain ⟨E,d,q⟩:=zjI p m;rw [hu] at d;injection d with d;subst d;exact zAT A.rel n q (zAo f.1 i)
  ·cases b
theorem zlG {gf : Func} {fn : Fun} {args : List V} {us : List Value} (o : Rel g w σ) (f : zz g w σ args us) (c : zj2 κ = true) (a : κ.all (fun t => decide (t < gf.ntmps)) = true) (hlen : κ.length = fn.nslots) (q : fn.np ≤ fn.nslots) (p : fn.np ≤ gf.ntmps) (k : κ.take fn.np = yk fn.np) (m : args.length = fn.np) :
  At' (g.clean σ.length) w σ κ gf.ntmps (g.clean σ.length) w (enter fn args σ) { tmps:=us.toArray ++ yj (gf.ntmps - us.toArray.size) undef,defers:=[] }:=by
 have j:=zhE f;refine ⟨Ext.refl _ _ _,zyW o,⟨by simp; omega,by simp [enter]; omega,fun i t e => ?_,fun d t h => by simp at h,fun d t h => by simp at h,zo7 c,fun t e => by simpa using List.all_eq_true.1 a t e,rfl⟩⟩
 by_cases b : i < args.length
 ·have : t = i:=by
   have e1 : (κ.take fn.np)[i]? = some t:=(by rw [ziS (by omega)]; exact e);rw [k,List.getElem?_range (by omega)] at e1;injection e1 with e1;exact e1.symm
  subst this
  have e2 : (args ++ yh (fn.nslots - args.length) vun).getD t vun = args[t]:=by
   rw [ye,List.getElem?_append_left b,yg b];rfl
  show zf (g.clean σ.length) w σ ((args ++ yh (fn.nslots - args.length) vun).getD t vun) _
  rw [e2];obtain ⟨u,n,l⟩:=zjI f (yg b)
  have e3 : (us.toArray ++ yj (gf.ntmps - us.toArray.size) undef).getD t undef = u:=by
   rw [Array.getD_eq_getD_getElem?,Array.getElem?_append_left (by simp; omega)];simp [n]
  rw [e3];exact zgW (g:=g) (g':=g.clean σ.length) rfl rfl rfl _ _ l
 ·have e2 : (args ++ yh (fn.nslots - args.length) vun).getD i vun = vun:=by
   rw [ye,List.getElem?_append_right (by omega),List.getElem?_replicate];split <;> rfl
  show zf (g.clean σ.length) w σ ((args ++ yh (fn.nslots - args.length) vun).getD i vun) _
  rw [e2];simp only [vun,zf,zy]
theorem zDT (L : DrawOk P CD) (A : zw0 P CD T) (n : Nat) : zhg P (zfI T (zO T n)):=by
 induction n using Nat.strongRecOn with
 | _ n ih =>
   intro f args σ v σ' h;unfold zfI at h;split at h
   ·rename_i fn p
    split at h
    ·rename_i r
     obtain ⟨gf,κ,o,k,b⟩:=(A f).1 fn p;unfold zv0 at b;simp only [yd,beq_iff_eq,decide_eq_true_eq] at b;obtain ⟨⟨⟨⟨⟨⟨⟨q,D⟩,K⟩,S⟩,H⟩,V⟩,I⟩,W⟩:=b;split at q
     ·rename_i c a
      refine ⟨⟨gf,c,o,k,a⟩,fun g w us Q M => ?_⟩;rw [yb] at h;obtain ⟨⟨e,s⟩,hex,d⟩:=h;have E:=zlG (gf:=gf) Q M D K S H V I r;have j:=zdr T n _ _ _ _ hex;have l:=(zol (T:=T) (g0:=g.clean σ.length) (w0:=w) (σ0:=σ) (κ:=κ) (nt:=gf.ntmps) L (zfW g σ.length) n ih).1 c fn.body _ e s q hex _ _ _ (Nat.le_refl _) E;refine calls_of_wp o a (wp_mono l fun x z w' B => ?_);obtain ⟨rfl,g',C⟩:=B;obtain ⟨O,J,u,U,t,R,N,y⟩:=zlw (gf:=gf) (zfW g σ.length) (by rw [j.2]; exact Nat.le_add_right _ _) W d C
      have i : z.defers = [] ∧ ∃ v1,(results gf z.tmps).run P w' = .ok v1 w' ∧ ∃ u g',(Ending.returned v1) = .returned u ∧ zf g' w' σ' v u ∧ Rel g' w' σ' ∧ Ext g w σ g' w' σ' :=
       ⟨J,u,U,u,G.under g w t,rfl,zgW (g:=t) (g':=G.under g w t) rfl rfl rfl _ _ R,zo8 y N,zpN y⟩
      rcases O with rfl | rfl
      ·exact i
      ·exact i
     ·cases q
    ·cases h
   ·rename_i ext m
    exact (A f).2 ext m args σ v σ' h
   ·cases h
theorem sound (c : DrawOk P CD) (a : zw0 P CD T) : zhg P (call T):=fun f args σ v σ' h => by
 obtain ⟨n,b⟩:=zrX h;exact zDT c a n f args σ v σ' b
end
end Go.A
