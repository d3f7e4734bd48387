/- A part of the proof of SchedTells. Conditions: none. -/
import Derived.Test.YtmkncmffaaninaaGreatTAI
set_option linter.all false
open Option renaming map_eq_some_iff → ya,bind_eq_some_iff → yb
open Bool renaming false_eq_true → yc,and_eq_true → yd
open List renaming getD_eq_getElem?_getD → ye,getElem?_eq_getElem → yg,replicate → yh,mapM_cons → yi,range → yk
open Array renaming getElem?_eq_some_iff → yf,replicate → yj
namespace Go.A
theorem zja {s b : St} {live : List Bool} {a : Nat} (h : s.clear live a = some b) : b.base = s.base ∧ b.lim = s.lim:=by
 unfold St.clear at h;rw [ya] at h;obtain ⟨σ',_,rfl⟩:=h;exact ⟨rfl,rfl⟩
theorem zzX {sp : Spec} {s s1 : St} (h : zDs sp s = some s1) : s1.base = s.base ∧ s1.lim = s.lim:=by
 unfold zDs at h;rw [yb] at h;obtain ⟨r,_,h⟩:=h;unfold zEu at h;split at h
 ·split at h
  ·cases h
  ·simp only [yb,ya] at h
   obtain ⟨es,_,ds,_,a,_,h⟩:=h;subst h;exact ⟨rfl,rfl⟩
 ·cases h
theorem zdR (T : Nat → Option Entry) : ∀ (n : Nat) (c : Code) (s : St) (e : Ex) (i : St),zU T n c s = some (e,i) → i.base = s.base ∧ i.lim = s.lim
 | 0,_,_,_,_,h => by simp [zU] at h
 | n + 1,c,s,e,i,h => by
   have g:=zdR T n;cases c <;> simp only [zU] at h
   case skip => injection h with h; injection h with f d; subst d; exact ⟨rfl,rfl⟩
   case label => injection h with h; injection h with f d; subst d; exact ⟨rfl,rfl⟩
   case ret => injection h with h; injection h with f d; subst d; exact ⟨rfl,rfl⟩
   case reg ops =>
    rw [ya] at h;obtain ⟨r,_,h⟩:=h;injection h with f d;subst d;exact ⟨rfl,rfl⟩
   case regd ps ops =>
    rw [ya] at h;obtain ⟨r,_,h⟩:=h;injection h with f d;subst d;exact ⟨rfl,rfl⟩
   case spec sp =>
    rw [ya] at h;obtain ⟨s1,f,h⟩:=h;injection h with _ d;subst d;exact zzX f
   case exit id live objs =>
    rw [ya] at h;obtain ⟨s1,f,h⟩:=h;injection h with _ d;subst d;exact zja f
   case goto id live objs =>
    rw [ya] at h;obtain ⟨s1,f,h⟩:=h;injection h with _ d;subst d;exact zja f
   case seq a b =>
    rw [yb] at h;obtain ⟨⟨e1,s1⟩,f,d⟩:=h;have i1:=g a s e1 s1 f;cases e1 <;> simp only [zrr] at d
    case normal => have i2:=g b s1 e i d; exact ⟨i2.1.trans i1.1,i2.2.trans i1.2⟩
    all_goals
     injection d with d;injection d with _ d;subst d;exact i1
   case cond x a b =>
    unfold ztb at h;split at h
    ·split at h
     ·exact g _ _ _ _ h
     ·exact g _ _ _ _ h
    ·cases h
   case block id body =>
    rw [ya] at h;obtain ⟨⟨e1,s1⟩,f,d⟩:=h;have i1:=g _ _ _ _ f;unfold zub at d;split at d
    ·rename_i heq
     injection heq with q1 q2;subst q2;split at d <;> (injection d with _ d; subst d; exact i1)
    ·injection d with _ d
     subst d;exact i1
   case loop live objs body =>
    rw [yb] at h;obtain ⟨⟨e1,s1⟩,f,d⟩:=h;have i1:=g _ _ _ _ f;cases e1 <;> simp only [zri] at d
    case normal =>
     rw [yb] at d;obtain ⟨s2,d,j⟩:=d;have i2:=zja d;have i3:=g _ _ _ _ j;exact ⟨i3.1.trans (i2.1.trans i1.1),i3.2.trans (i2.2.trans i1.2)⟩
    all_goals
     injection d with d;injection d with _ d;subst d;exact i1
   case scope body => exact g _ _ _ _ h
   case sc body cur =>
    rw [yb] at h;obtain ⟨⟨e1,s1⟩,f,d⟩:=h;have i1:=g _ _ _ _ f;unfold scK at d;split at d
    ·rename_i heq
     injection heq with q1 q2;subst q2;split at d
     ·have i2:=g _ _ _ _ d; exact ⟨i2.1.trans i1.1,i2.2.trans i1.2⟩
     ·injection d with d; injection d with _ d; subst d; exact i1
    ·injection d with d
     injection d with _ d;subst d;exact i1
structure Draws where
 a : List Tmp → Nat → Array Go.Oper → List Oper → Bool
 b : List Tmp → Nat → Array Go.Oper → List (Nat × Nat) → List Oper → Bool
 c : List Tmp → Nat → Go.Code → Spec → Bool
def zr (P : Program) (CD : Draws) (κ : List Tmp) (nt : Nat) : Go.Code → Code → Bool
 | .skip,.skip => true
 | c,.spec sp => CD.c κ nt c sp
 | .region _ ops draw,.regd ps xs => draw && CD.b κ nt ops ps xs
 | .region _ ops draw,.reg xs => if draw then CD.a κ nt ops xs else zrM P κ nt ops [] ops.toList xs
 | .seq a b,.seq a' b' => zr P CD κ nt a a' && zr P CD κ nt b b'
 | .cond c a b,.cond x a' b' => okX κ [] c x && zr P CD κ nt a a' && zr P CD κ nt b b'
 | .block id b,.block id' b' => (id == id') && zr P CD κ nt b b'
 | .loop b,.loop live _ b' => (live.length == κ.length) && zr P CD κ nt b b'
 | .exit id,.exit id' live _ => (id == id') && (live.length == κ.length)
 | .scope b,.scope b' => zr P CD κ nt b b'
 | .label l,.label l' => l == l'
 | .goto l,.goto l' live _ => (l == l') && (live.length == κ.length)
 | .ret,.ret live => live.length == κ.length
 | _,_ => false
def zAe (P : Program) (κ : List Tmp) (nt id : Nat) (gops : Array Go.Oper) (r r1 : R) : Prop:=∀ (g : G) (w : World) (a : Act) (Q : Exit → Act → World → Prop),
 Rel g w r.st → Fr κ [] nt g w r a → (∀ g' w' a' loc',Ext g w r.st g' w' r1.st → Rel g' w' r1.st → Fr κ loc' nt g' w' r1 a' → Q .normal a' w') → (Go.Code.region id gops true).wp P Q a w
structure DrawOk (P : Program) (CD : Draws) : Prop where
 a : ∀ (Cf : zai),zh3 P Cf → ∀ (κ : List Tmp) (nt id : Nat) (gops : Array Go.Oper) (xs : List Oper),CD.a κ nt gops xs = true → ∀ (r r1 : R),r.rs = [] → steps Cf xs r = some r1 → zAe P κ nt id gops r r1
 b : ∀ (Cf : zai),zh3 P Cf → ∀ (κ : List Tmp) (nt id : Nat) (gops : Array Go.Oper) (ps : List (Nat × Nat)) (xs : List Oper),CD.b κ nt gops ps xs = true → ∀ (r r1 : R),r.rs = [] → zyO Cf ps xs r = some r1 → zAe P κ nt id gops r r1
 lab : ∀ κ nt c sp,CD.c κ nt c sp = true → ∀ l,Go.findLabel c l = none
 c : ∀ (κ : List Tmp) (nt : Nat) (c : Go.Code) (sp : Spec),CD.c κ nt c sp = true → ∀ (s s1 : St),zDs sp s = some s1 → ∀ (g : G) (w : World) (a : Act) (Q : Exit → Act → World → Prop),
   Rel g w s.st → Fr κ [] nt g w ⟨[],s.env,s.st,s.base,s.lim⟩ a → (∀ g' w' a',Ext g w s.st g' w' s1.st → Rel g' w' s1.st → Fr κ [] nt g' w' ⟨[],s1.env,s1.st,s1.base,s1.lim⟩ a' → Q .normal a' w') → c.wp P Q a w
section
variable {P : Program} {CD : Draws} {κ : List Tmp} {nt : Nat}
theorem zlB (d : DrawOk P CD) : ∀ {c : Go.Code} {ac : Code} {l : Nat},zr P CD κ nt c ac = true → findLabel ac l = none → Go.findLabel c l = none
 | c,.seq a' b',l,h,hf => by
   cases c <;> simp only [zr,yc] at h;rename_i a b;simp only [yd] at h;simp only [findLabel] at hf;split at hf
   ·cases hf
   ·rename_i f
    simp only [Go.findLabel,zlB d h.1 f,zlB d h.2 hf]
 | c,.label l',l,h,hf => by
   cases c <;> simp only [zr,yc] at h;rename_i g;simp only [beq_iff_eq] at h;subst h;simp only [findLabel] at hf;split at hf
   ·cases hf
   ·rename_i e
    have : (g == l) = false:=(by simpa using e);simp [Go.findLabel,this]
 | c,.skip,l,h,hf => by cases c <;> simp_all [zr,Go.findLabel]
 | c,.reg _,l,h,hf => by cases c <;> simp_all [zr,Go.findLabel]
 | c,.regd _ _,l,h,hf => by cases c <;> simp_all [zr,Go.findLabel]
 | c,.spec sp,l,h,hf => d.lab κ nt c sp (by simpa only [zr] using h) l
 | c,.cond _ _ _,l,h,hf => by cases c <;> simp_all [zr,Go.findLabel]
 | c,.block _ _,l,h,hf => by cases c <;> simp_all [zr,Go.findLabel]
 | c,.loop _ _ _,l,h,hf => by cases c <;> simp_all [zr,Go.findLabel]
 | c,.exit _ _ _,l,h,hf => by cases c <;> simp_all [zr,Go.findLabel]
 | c,.scope _,l,h,hf => by cases c <;> simp_all [zr,Go.findLabel]
 | c,.sc _ _,l,h,hf => by cases c <;> simp_all [zr]
 | c,.goto _ _ _,l,h,hf => by cases c <;> simp_all [zr,Go.findLabel]
 | c,.ret _,l,h,hf => by cases c <;> simp_all [zr,Go.findLabel]
theorem zn4 (e : DrawOk P CD) : ∀ {c : Go.Code} {ac ar : Code} {l : Nat},zr P CD κ nt c ac = true → findLabel ac l = some ar → ∃ r,Go.findLabel c l = some r ∧ zr P CD κ nt r ar = true
 | c,.seq a' b',ar,l,h,hf => by
   cases c <;> simp only [zr,yc] at h;rename_i a b;simp only [yd] at h;simp only [findLabel] at hf;split at hf
   ·rename_i rest d
    injection hf with hf;subst hf;obtain ⟨r,g,f⟩:=zn4 e h.1 d;exact ⟨.seq r b,by simp only [Go.findLabel,g],by simp [zr,f,h.2]⟩
   ·rename_i d
    obtain ⟨r,g,f⟩:=zn4 e h.2 hf;exact ⟨r,by simp only [Go.findLabel,zlB e h.1 d,g],f⟩
 | c,.label l',ar,l,h,hf => by
   cases c <;> simp only [zr,yc] at h;rename_i i;simp only [beq_iff_eq] at h;subst h;simp only [findLabel] at hf;split at hf
   ·rename_i he
    injection hf with hf;subst hf;exact ⟨.skip,by simp [Go.findLabel,he],rfl⟩
   ·cases hf
 | c,.skip,_,l,h,hf => by simp [findLabel] at hf
 | c,.reg _,_,l,h,hf => by simp [findLabel] at hf
 | c,.cond _ _ _,_,l,h,hf => by simp [findLabel] at hf
 | c,.block _ _,_,l,h,hf => by simp [findLabel] at hf
 | c,.loop _ _ _,_,l,h,hf => by simp [findLabel] at hf
 | c,.exit _ _ _,_,l,h,hf => by simp [findLabel] at hf
 | c,.scope _,_,l,h,hf => by simp [findLabel] at hf
 | c,.sc _ _,_,l,h,hf => by simp [findLabel] at hf
 | c,.goto _ _ _,_,l,h,hf => by simp [findLabel] at hf
 | c,.ret _,_,l,h,hf => by simp [findLabel] at hf
end
section
variable {P : Program} {a : Act} {w : World} {Q : Exit → Act → World → Prop}
def RL (P : Program) (c : Go.Code) (Q : Exit → Act → World → Prop) (a : Act) (w : World) : Prop :=
 ∀ (b : Frame) (k : List Item) (cs : List Frame),∃ e a' w',Q e a' w' ∧ Arrives P (lone (b.at a (.code c :: .inLoop c :: k)) cs w) b k cs e a' w'
theorem zCu {c : Go.Code} (h : RL P c Q a w) : (Go.Code.loop c).wp P Q a w:=fun b k cs =>
 let ⟨e,a',w',q,r⟩:=h b k cs; ⟨e,a',w',q,.of_steps (.one step_loop) r⟩
theorem zB4 {c : Go.Code} (h : c.wp P (Exit.then (RL P c Q) Q) a w) : RL P c Q a w:=by
 intro b k cs;obtain ⟨e,j,i,g,d⟩:=h b (.inLoop c :: k) cs
 cases e with
 | normal =>
   obtain ⟨p,o,n,m,f⟩:=g b k cs;exact ⟨p,o,n,m,.of_steps (Steps.trans d (.one step_inLoop)) f⟩
 | exit id => exact ⟨_,j,i,g,.pass (x:=.inLoop c) rfl (fun _ _ => .inl (by simp)) d⟩
 | goto l => exact ⟨_,j,i,g,.pass (x:=.inLoop c) rfl (fun _ _ => .inl (by simp)) d⟩
 | ret => exact ⟨_,j,i,g,.pass (x:=.inLoop c) rfl (fun _ _ => .inl (by simp)) d⟩
 | panic ch => exact ⟨_,j,i,g,.pass (x:=.inLoop c) rfl (fun _ _ => .inl (by simp)) d⟩
 | outgrown => exact ⟨_,j,i,g,.pass (x:=.inLoop c) rfl (fun _ _ => .inl (by simp)) d⟩
def RS (P : Program) (body : Go.Code) (Q : Exit → Act → World → Prop) (rest : Go.Code) (a : Act) (w : World) : Prop :=
 ∀ (b : Frame) (k : List Item) (cs : List Frame),∃ e a' w',Q e a' w' ∧ Arrives P (lone (b.at a (.code rest :: .inScope body :: k)) cs w) b k cs e a' w'
def Exit.inSc (P : Program) (body : Go.Code) (Q : Exit → Act → World → Prop) : Exit → Act → World → Prop
 | .goto l,a,w => match Go.findLabel body l with
   | some r => RS P body Q r a w
   | none => Q (.goto l) a w
 | e,a,w => Q e a w
theorem zCo {body : Go.Code} (h : RS P body Q body a w) : (Go.Code.scope body).wp P Q a w:=fun b k cs =>
 let ⟨e,a',w',q,r⟩:=h b k cs; ⟨e,a',w',q,.of_steps (.one step_scope) r⟩
theorem zFu {body rest : Go.Code} (h : rest.wp P (Exit.inSc P body Q) a w) : RS P body Q rest a w:=by
 intro b k cs;obtain ⟨e,i,g,d,c⟩:=h b (.inScope body :: k) cs
 cases e with
 | normal => exact ⟨.normal,i,g,d,Steps.trans c (.one step_inScope)⟩
 | exit id => exact ⟨.exit id,i,g,d,fun m o => c m (by simp [exitTo,o])⟩
 | goto l =>
   simp only [Exit.inSc] at d
   cases j : Go.findLabel body l with
   | none =>
     rw [j] at d;exact ⟨.goto l,i,g,d,fun m o => c m (by simp [gotoIn,j,o])⟩
   | some r =>
     rw [j] at d;obtain ⟨p,s,q,n,f⟩:=d b k cs;exact ⟨p,s,q,n,.of_steps (c _ (by simp [gotoIn,j])) f⟩
 | ret => exact ⟨_,i,g,d,c⟩
 | panic ch => exact ⟨_,i,g,d,c⟩
 | outgrown => exact ⟨_,i,g,d,c⟩
end
def zl5 : Ex → Exit
 | .normal => .normal
 | .exit i => .exit i
 | .goto l => .goto l
 | .ret => .ret
section
variable {P : Program} {CD : Draws} {κ : List Tmp} {nt : Nat} {g0 : G} {w0 : World} {σ0 : zd} {T : Nat → Option Entry}
def zEw (g0 : G) (w0 : World) (σ0 : zd) (κ : List Tmp) (nt : Nat) (e : Ex) (s' : St) : Exit → Act → World → Prop:=fun x a w => x = zl5 e ∧ ∃ g,At' g0 w0 σ0 κ nt g w s' a
theorem zpB (K : DrawOk P CD) (B : Clean g0 σ0.length) : ∀ (n : Nat),(∀ m,m < n → zh3 P (zgp T (zU T m))) →
  (∀ (c : Go.Code) (ac : Code) (s : St) (e : Ex) (C : St),zr P CD κ nt c ac = true → zU T n ac s = some (e,C) → ∀ g w a,σ0.length ≤ s.base → At' g0 w0 σ0 κ nt g w s a → c.wp P (zEw g0 w0 σ0 κ nt e C) a w) ∧
  (∀ (G gc : Go.Code) (ab ac : Code) (s : St) (e : Ex) (C : St),zr P CD κ nt G ab = true → zr P CD κ nt gc ac = true → zU T n (.sc ab ac) s = some (e,C) → ∀ g w a,σ0.length ≤ s.base → At' g0 w0 σ0 κ nt g w s a → RS P G (zEw g0 w0 σ0 κ nt e C) gc a w) ∧
  (∀ (G : Go.Code) (live : List Bool) (r : Nat) (ab : Code) (s : St) (e : Ex) (C : St),live.length = κ.length → zr P CD κ nt G ab = true → zU T n (.loop live r ab) s = some (e,C) → ∀ g w a,σ0.length ≤ s.base → At' g0 w0 σ0 κ nt g w s a → RL P G (zEw g0 w0 σ0 κ nt e C) a w)
 | 0,_ => ⟨fun _ _ _ _ _ _ h => by simp [zU] at h,fun _ _ _ _ _ _ _ _ _ h => by simp [zU] at h,fun _ _ _ _ _ _ _ _ _ h => by simp [zU] at h⟩
 | n + 1,hS => by
   obtain ⟨u,L,O⟩:=zpB K B n fun m hm => hS m (by omega);have I:=hS n (by omega);refine ⟨fun c ac s e C f h g w a q A => ?_,fun G gc ab ac s e C E U h g w a q A => ?_,fun G live r ab s e C J f h g w a q A => ?_⟩
   ·cases ac <;> simp only [zU] at h
    case skip =>
     injection h with h;injection h with k d;subst k d;cases c <;> simp only [zr,yc] at f;exact wp_skip ⟨rfl,g,A⟩
    case label l =>
     injection h with h;injection h with k d;subst k d;cases c <;> simp only [zr,yc] at f;exact wp_label ⟨rfl,g,A⟩
    case ret live =>
     injection h with h;injection h with k d;subst k d;cases c <;> simp only [zr,yc,beq_iff_eq] at f;exact wp_ret ⟨rfl,g,A.ext,A.rel,A.fr.clr f⟩
    case exit id live r =>
     rw [ya] at h;obtain ⟨s1,k,h⟩:=h;injection h with d o;subst d o;cases c <;> simp only [zr,yc,yd,beq_iff_eq] at f;obtain ⟨rfl,J⟩:=f;obtain ⟨g',p⟩:=zpH B q J k A;exact wp_exit ⟨rfl,g',p⟩
    case goto l live r =>
     rw [ya] at h;obtain ⟨s1,k,h⟩:=h;injection h with d o;subst d o;cases c <;> simp only [zr,yc,yd,beq_iff_eq] at f;obtain ⟨rfl,J⟩:=f;obtain ⟨g',p⟩:=zpH B q J k A;exact wp_goto ⟨rfl,g',p⟩
    case reg xs =>
     rw [ya] at h;obtain ⟨r1,k,h⟩:=h;injection h with d o;subst d o
     have z : ∀ g' w' y v,Ext g w s.st g' w' r1.st → Rel g' w' r1.st → Fr κ v nt g' w' r1 y → zEw g0 w0 σ0 κ nt .normal ⟨r1.env,r1.st,s.base,s.lim⟩ .normal y w':=fun g' w' y v H R N =>
      ⟨rfl,g',A.ext.trans H,R,Fr.bare (rs:=r1.rs) (b:=r1.base) (l:=r1.lim) N⟩
     cases c <;> simp only [zr,yc] at f;rename_i id ops draw;cases draw
     ·simp only [yc,if_false] at f
      refine wp_region ?_;rw [List.range_eq_range'];have:=ztZ (Q:=zEw g0 w0 σ0 κ nt .normal ⟨r1.env,r1.st,s.base,s.lim⟩) I ops.toList xs 0 (loc:=[]) (fun j => by simp) f k A.rel A.fr z;simpa using this
     ·simp only [if_true] at f
      exact K.a _ I κ nt id ops xs f _ r1 rfl k g w a _ A.rel A.fr z
    case regd ps xs =>
     rw [ya] at h;obtain ⟨r1,k,h⟩:=h;injection h with d o;subst d o
     have z : ∀ g' w' y v,Ext g w s.st g' w' r1.st → Rel g' w' r1.st → Fr κ v nt g' w' r1 y → zEw g0 w0 σ0 κ nt .normal ⟨r1.env,r1.st,s.base,s.lim⟩ .normal y w':=fun g' w' y v H R N =>
      ⟨rfl,g',A.ext.trans H,R,Fr.bare (rs:=r1.rs) (b:=r1.base) (l:=r1.lim) N⟩
     cases c <;> simp only [zr,yc,yd] at f;rename_i id ops draw;obtain ⟨rfl,f⟩:=f;exact K.b _ I κ nt id ops ps xs f _ r1 rfl k g w a _ A.rel A.fr z
    case spec sp =>
     rw [ya] at h;obtain ⟨s1,k,h⟩:=h;injection h with d o;subst d o;have W : CD.c κ nt c sp = true:=(by simpa only [zr] using f);exact K.c κ nt c sp W s s1 k g w a _ A.rel A.fr fun g' w' y H R N => ⟨rfl,g',A.ext.trans H,R,N⟩
    case seq a1 b1 =>
     rw [yb] at h;obtain ⟨⟨e1,s1⟩,k,d⟩:=h;cases c <;> simp only [zr,yc,yd] at f;have i:=zdR T n _ _ _ _ k;refine wp_seq (wp_mono (u _ _ _ _ _ f.1 k g w a q A) fun x y w' D => ?_);obtain ⟨rfl,g',p⟩:=D;cases e1 <;> simp only [zrr] at d <;> simp only [zl5,Exit.then]
     case normal => exact u _ _ _ _ _ f.2 d g' w' y (by rw [i.1]; exact q) p
     all_goals
      injection d with d;injection d with d o;subst d o;exact ⟨rfl,g',p⟩
    case cond x a1 b1 =>
     unfold ztb at h;cases c <;> simp only [zr,yc,yd] at f;have Z:=A.fr.get f.1.1;split at h
     ·rename_i t M
      rw [M] at Z;obtain ⟨ev,_⟩:=zQ Z;refine wp_cond_split ev (fun Y => ?_) (fun Y => ?_)
      ·rw [if_pos Y] at h
       exact u _ _ _ _ _ f.1.2 h g w a q A
      ·rw [if_neg (by simp [Y])] at h
       exact u _ _ _ _ _ f.2 h g w a q A
     ·cases h
    case block id body =>
     rw [ya] at h;obtain ⟨⟨e1,s1⟩,k,d⟩:=h;cases c <;> simp only [zr,yc,yd,beq_iff_eq] at f;obtain ⟨rfl,f⟩:=f;refine wp_block (wp_mono (u _ _ _ _ _ f k g w a q A) fun x y w' D => ?_);obtain ⟨rfl,g',p⟩:=D;cases e1 <;> simp only [zub] at d <;> simp only [zl5,Exit.inBlock]
     case exit id' =>
      split at d
      ·rename_i he
       injection d with d o;subst d o;rw [if_pos he];exact ⟨rfl,g',p⟩
      ·rename_i he
       injection d with d o;subst d o;rw [if_neg he];exact ⟨rfl,g',p⟩
     all_goals
      injection d with d o;subst d o;exact ⟨rfl,g',p⟩
    case loop live r body =>
     cases c <;> simp only [zr,yc,yd,beq_iff_eq] at f;refine zCu (zB4 ?_);rw [yb] at h;obtain ⟨⟨e1,s1⟩,k,d⟩:=h;have i:=zdR T n _ _ _ _ k;refine wp_mono (u _ _ _ _ _ f.2 k g w a q A) fun x y w' D => ?_;obtain ⟨rfl,g',p⟩:=D;cases e1 <;> simp only [zri] at d <;> simp only [zl5,Exit.then]
     case normal =>
      rw [yb] at d;obtain ⟨s2,d,o⟩:=d;obtain ⟨X,V⟩:=zpH B (by rw [i.1]; exact q) f.1 d p;exact O _ _ _ _ _ _ _ f.1 f.2 o X w' y (by rw [(zja d).1,i.1]; exact q) V
     all_goals
      injection d with d;injection d with d o;subst d o;exact ⟨rfl,g',p⟩
    case scope body =>
     cases c <;> simp only [zr,yc] at f;exact zCo (L _ _ _ _ _ _ _ f f h g w a q A)
    case sc => cases c <;> simp [zr] at f
   ·simp only [zU] at h
    rw [yb] at h;obtain ⟨⟨e1,s1⟩,k,d⟩:=h;have i:=zdR T n _ _ _ _ k;refine zFu (wp_mono (u _ _ _ _ _ U k g w a q A) fun x y w' D => ?_);obtain ⟨rfl,g',p⟩:=D;cases e1 <;> simp only [scK] at d <;> simp only [zl5,Exit.inSc]
    case goto l =>
     cases S : findLabel ab l with
     | none =>
       rw [S] at d;rw [zlB K E S];injection d with d;injection d with d o;subst d o;exact ⟨rfl,g',p⟩
     | some ar =>
       rw [S] at d;obtain ⟨rr,q1,q2⟩:=zn4 K E S;rw [q1];exact L _ _ _ _ _ _ _ E q2 d g' w' y (by rw [i.1]; exact q) p
    all_goals
     injection d with d;injection d with d o;subst d o;exact ⟨rfl,g',p⟩
   ·simp only [zU] at h
    refine zB4 ?_;rw [yb] at h;obtain ⟨⟨e1,s1⟩,k,d⟩:=h;have i:=zdR T n _ _ _ _ k;refine wp_mono (u _ _ _ _ _ f k g w a q A) fun x y w' D => ?_;obtain ⟨rfl,g',p⟩:=D;cases e1 <;> simp only [zri] at d <;> simp only [zl5,Exit.then]
    case normal =>
     rw [yb] at d;obtain ⟨s2,d,o⟩:=d;obtain ⟨X,V⟩:=zpH B (by rw [i.1]; exact q) J d p;exact O _ _ _ _ _ _ _ J f o X w' y (by rw [(zja d).1,i.1]; exact q) V
    all_goals
     injection d with d;injection d with d o;subst d o;exact ⟨rfl,g',p⟩
end
def zke (P : Program) (κ : List Tmp) : List ResultVar → List (Nat × Option (Option Nat)) → Bool
 | [],[] => true
 | .tmp t :: rs,(i,none) :: xs => (κ[i]? == some t) && zke P κ rs xs
 | .cell t ty :: rs,(i,some sz) :: xs => (κ[i]? == some t) && zF0 P ty sz && zke P κ rs xs
 | _,_ => false
def zkG : List Nat → Bool
 | [] => true
 | x :: xs => !xs.contains x && zkG xs
theorem zqA : ∀ {xs : List Nat},zkG xs = true → xs.Nodup
 | [],_ => List.nodup_nil
 | x :: xs,h => by
   simp only [zkG,yd,Bool.not_eq_true'] at h;exact List.nodup_cons.2 ⟨by simpa using h.1,zqA h.2⟩
def zw5 (P : Program) (CD : Draws) (κ : List Tmp) (gf : Func) (fn : Fun) : Bool :=
 (match gf.body with
  | some c => zr P CD κ gf.ntmps c fn.body
  | none => false) &&
 zkG κ && κ.all (fun t => decide (t < gf.ntmps)) && κ.length == fn.nslots && decide (fn.np ≤ fn.nslots) && decide (fn.np ≤ gf.ntmps) && (κ.take fn.np == yk fn.np) && zke P κ gf.results.toList fn.results
def zyG (P : Program) (CD : Draws) (T : Nat → Option Entry) : Prop:=∀ f,
 (∀ fn, T f = some (.fn fn) → ∃ gf κ, P.funcs[f]? = some gf ∧ (gf.name == "runtime.NumGoroutine") = false ∧ zw5 P CD κ gf fn = true) ∧
 (∀ ext,T f = some (.ext ext) → ∀ args σ v σ',ext args σ = some (v,σ') → Enters P f ∧ ∀ g w us,Rel g w σ → zA g w σ args us → Calls P f us.toArray w fun e w' => ∃ u g',e = .returned u ∧ zf g' w' σ' v u ∧ Rel g' w' σ' ∧ Ext g w σ g' w' σ')
section
variable {P : Program} {CD : Draws} {κ : List Tmp} {nt : Nat} {g : G} {w : World} {σ : zd} {T : Nat → Option Entry} {a : Act}
theorem zv9 {t : TypeId} {x : Operand} {u : Value} (h : (execOp a.eval { (default : Go.Oper) with op:=.load t x }).run P w = .ok (.value u) w) : ∃ ad,a.eval x = .pointer (some ad) ∧ (loadVar t ad).run P w = .ok u w ∨ ¬ ∃ ad,a.eval x = .pointer (some ad):=by
 by_cases b : ∃ ad,a.eval x = .pointer (some ad)
 ·obtain ⟨ad,b⟩:=b
  refine ⟨ad,.inl ⟨b,?_⟩⟩;unfold execOp at h;simp only [b] at h;simp only [Instr.loadAt,Instr.sureAddr,Sem.run_bind,Sem.run_pure,Result.andThen_ok] at h
  cases c : (loadVar t ad).run P w with
  | ok v w1 =>
    rw [c] at h;simp only [Result.andThen_ok] at h;injection h with h1 h2;injection h1 with h1;rw [h1,h2]
  | halt x w1 =>
    rw [c] at h;simp [Result.andThen] at h
 ·exact ⟨⟨0,0,none⟩,.inr b⟩
def zwI (tmps : Array Value) : ResultVar → Sem Value
 | .tmp t => pure (tmps.getD t undef)
 | .cell ad t => do loadVar t (← asAddr (tmps.getD ad undef))
theorem zx0 (gf : Func) (tmps : Array Value) : results gf tmps = (do
  let vs ← gf.results.mapM (zwI tmps)
  pure (if h : vs.size = 1 then vs[0] else .tuple vs)):=by
 unfold results
 congr 1
theorem zvL {r : R} (s : Rel g w r.st) (F : Fr κ [] nt g w r a) : ∀ {rs : List ResultVar} {xs : List (Nat × Option (Option Nat))} {raw : Bool} {lim : Nat} {vs : List V},zke P κ rs xs = true → outs raw lim r.st r.env xs = some vs →
  ∃ us v0s,(rs.mapM (zwI a.tmps)).run P w = .ok us w ∧ zA g w r.st v0s us ∧ v0s.length = vs.length ∧ ∀ (i : Nat) (v : V),vs[i]? = some v → ∃ v0,v0s[i]? = some v0 ∧ zAy raw lim r.st v0 = some v
 | [],[],raw,lim,vs,_,h => by
   simp only [outs,Option.some.injEq] at h;subst h;exact ⟨[],[],by simp,by simp only [zA],rfl,fun i v h => by simp at h⟩
 | .tmp t :: rs,(i,none) :: xs,raw,lim,vs,hc,h => by
   simp only [zke,yd,beq_iff_eq] at hc;simp only [outs] at h;obtain ⟨v,y,c,x,rfl⟩:=zgv h;obtain ⟨us,v0s,p,m,q,z⟩:=zvL s F hc.2 x;simp only [zuS,Option.bind_some] at c;refine ⟨a.tmps.getD t undef :: us,r.env.getD i vun :: v0s,by simp [yi,zwI,p],by simp only [zA]; exact ⟨_,_,rfl,F.env i t hc.1,m⟩,by simp [q],fun j v' b => ?_⟩
   cases j with
   | zero => simp at b; subst b; exact ⟨_,by simp,c⟩
   | succ j => simpa using z j v' (by simpa using b)
 | .cell t ty :: rs,(i,some sz) :: xs,raw,lim,vs,hc,h => by
   simp only [zke,yd,beq_iff_eq] at hc;simp only [outs] at h;obtain ⟨v,y,c,x,rfl⟩:=zgv h;obtain ⟨us,v0s,p,m,q,z⟩:=zvL s F hc.2 x;rw [yb] at c;obtain ⟨v0,d,B⟩:=c;simp only [zuS] at d;have f : zf g w r.st (r.env.getD i vun) (a.eval (.tmp t)):=F.env i t hc.1.1;obtain ⟨u,C,A⟩:=zxA (P:=P) (o:={ (default : Go.Oper) with op:=.load ty (.tmp t) }) s rfl (zox hc.1.2) f d
   have l : ∃ ad,a.eval (.tmp t) = .pointer (some ad):=by
    unfold ald at d
    split at d <;> first
     | (rename_i he; rw [he] at f; simp only [zf,zz] at f; first | (obtain ⟨_,_,_,_,_,_,ad,e⟩:=f; exact ⟨ad,e⟩) | (obtain ⟨_,_,e,_⟩:=f; exact ⟨_,e⟩))
     | cases d
   obtain ⟨ad,k | n⟩:=zv9 C
   ·have he : a.tmps.getD t undef = .pointer (some ad):=k.1
    refine ⟨u :: us,v0 :: v0s,by simp only [yi,zwI,he,asAddr,Sem.run_bind,Sem.run_pure,Result.andThen_ok,k.2,p],by simp only [zA]; exact ⟨_,_,rfl,A,m⟩,by simp [q],fun j v' b => ?_⟩
    cases j with
    | zero => simp at b; subst b; exact ⟨_,by simp,B⟩
    | succ j => simpa using z j v' (by simpa using b)
   ·exact absurd l n
 | [],_ :: _,_,_,_,hc,_ => by simp [zke] at hc
 | .tmp _ :: _,[],_,_,_,hc,_ => by simp [zke] at hc
 | .cell _ _ :: _,[],_,_,_,hc,_ => by simp [zke] at hc
 | .tmp _ :: _,(_,some _) :: _,_,_,_,hc,_ => by simp [zke] at hc
 | .cell _ _ :: _,(_,none) :: _,_,_,_,hc,_ => by simp [zke] at hc
theorem zoO {lim : Nat} (e : σ.length ≤ lim) : ∀ {cs : List C} {xs : List Fz},zjB lim σ cs = some xs → zeq cs = some xs
 | [],xs,h => by simpa only [zjB,zeq] using h
 | c :: cs,xs,h => by
   simp only [zjB] at h;simp only [zeq];unfold zgl at h ⊢;split at h
   ·rename_i x ys a b
    injection h with h;subst h;rw [zoO e b]
    have : zun c = some x:=by
     unfold zDw at a;split at a
     ·split at a
      ·rename_i d
       rw [ya] at a;obtain ⟨_,a,_⟩:=a;rw [yb] at a;obtain ⟨_,a,_⟩:=a;have:=zb a;omega
      ·cases a
     ·exact a
    rw [this]
   ·cases h
theorem zpb (e : Rel g w σ) {lim : Nat} : ∀ {cs : List C} {xs : List Fz} {us : List Value},zjB lim σ cs = some xs → zw g w σ cs us → zw (g.drop lim w) w (σ.take lim) (xs.map C.f) us
 | [],xs,us,h,hr => by
   simp only [zjB,Option.some.injEq] at h;subst h;simpa only [List.map_nil,zw] using hr
 | c :: cs,xs,us,h,hr => by
   simp only [zjB] at h;unfold zgl at h;split at h
   ·rename_i x ys a r
    injection h with h;subst h;simp only [zw] at hr;obtain ⟨v,vs,rfl,j,l⟩:=hr;simp only [List.map_cons,zw];refine ⟨v,vs,rfl,?_,zpb e r l⟩;unfold zDw at a;split at a
    ·split at a
     ·rename_i id i lo n d
      rw [ya] at a;obtain ⟨ys,a,rfl⟩:=a;simp only [zz];refine zod e (fun b o h => .inl h) (fun o => ?_) a (by simpa only [zf] using j)
      by_cases k : ∃ sz es,σ[id]? = some (.cells i sz es) ∧ es ≠ []
      ·obtain ⟨sz,es,s,p⟩:=k
       obtain ⟨q,_,arr,t,m,_⟩:=e.ob id _ s p;exact .inl (.inr ⟨(yf.1 m).1,id,d,q⟩)
      ·exact .inr k
     ·cases a
    ·simp only [zz]
     exact zdb zhy _ v (zhE a j)
   ·cases h
theorem zCI {lim : Nat} {raw : Bool} {v0 v : V} {u : Value} (d : σ.length ≤ lim) (h : zAy raw lim σ v0 = some v) (a : zf g w σ v0 u) : zf g w σ v u:=by
 unfold zAy at h;split at h
 ·injection h with h; subst h; exact a
 ·unfold zEt at h
  split at h
  ·split at h
   ·rename_i id e lo n c
    rw [ya] at h;obtain ⟨xs,h,_⟩:=h;rw [yb] at h;obtain ⟨i,h,_⟩:=h;have:=zb h;omega
   ·cases h
  ·injection h with h
   subst h;simp only [zf,zz] at a;simp only [vsl,zf,zz];exact a.1
  ·rw [ya] at h
   obtain ⟨xs,h,rfl⟩:=h;simp only [zf] at a;obtain ⟨us,f,b⟩:=a;simp only [zCa,zf];exact ⟨us,f,zok (zhS.refl _ _) rfl (zoO d h) b⟩
  ·injection h with h; subst h; exact a
theorem zCv (e : Rel g w σ) {lim : Nat} {raw : Bool} {v0 v : V} {u : Value} (h : zAy raw lim σ v0 = some v) (a : zf g w σ v0 u) (c : v.lt lim = true) : zf (g.drop lim w) w (σ.take lim) v u:=by
 unfold zAy at h;split at h
 ·injection h with h; subst h; exact zk7 _ _ a c
 ·unfold zEt at h
  split at h
  ·split at h
   ·rename_i id f lo n d
    rw [ya] at h;obtain ⟨xs,h,rfl⟩:=h;simp only [vsl,zf,zz];refine zod e (fun b o h => .inl h) (fun o => ?_) h a
    by_cases i : ∃ sz es,σ[id]? = some (.cells f sz es) ∧ es ≠ []
    ·obtain ⟨sz,es,l,j⟩:=i
     obtain ⟨p,_,arr,t,m,_⟩:=e.ob id _ l j;exact .inl (.inr ⟨(yf.1 m).1,id,d,p⟩)
    ·exact .inr i
   ·cases h
  ·injection h with h
   subst h;simp only [zf,zz] at a;simp only [vsl,zf,zz];exact zdb zhy _ u a.1
  ·rw [ya] at h
   obtain ⟨xs,h,rfl⟩:=h;simp only [zf] at a;obtain ⟨us,k,q⟩:=a;simp only [zCa,zf];exact ⟨us,k,zpb e h q⟩
  ·injection h with h; subst h; exact zk7 _ _ a c
theorem zic : ∀ {vs : List V} {us : List Value},zA g w σ vs us → us.length = vs.length
 | [],us,h => by simp only [zA] at h; simp [h]
 | c :: cs,us,h => by
   simp only [zA] at h;obtain ⟨v,vs,rfl,_,a⟩:=h;simp [zic a]
theorem ztk : ∀ {vs : List V} {us : List Value},us.length = vs.length → (∀ (j : Nat) (c : V) (u : Value),vs[j]? = some c → us[j]? = some u → zf g w σ c u) → zA g w σ vs us
 | [],us,hl,_ => by simp only [zA]; exact List.eq_nil_of_length_eq_zero (by simpa using hl)
 | c :: cs,[],hl,_ => by simp at hl
 | c :: cs,v :: vs,hl,h => by
   simp only [zA];exact ⟨v,vs,rfl,h 0 c v (by simp) (by simp),ztk (by simpa using hl) fun j c u a hu => h (j + 1) c u (by simpa using a) (by simpa using hu)⟩
theorem zzD {n : Nat} : ∀ {vs : List V} {i : Nat} {v : V},V.lts n vs = true → vs[i]? = some v → v.lt n = true
 | [],_,_,_,h => by simp at h
 | x :: xs,0,v,hl,h => by
   simp only [V.lts,yd] at hl;simp at h;subst h;exact hl.1
 | x :: xs,i + 1,v,hl,h => by
   simp only [V.lts,yd] at hl;exact zzD hl.2 (by simpa using h)
theorem zmJ {g0 : G} {w0 : World} {σ0 : zd} {fn : Fun} {gf : Func} {e : Ex} {s : St} {v : V} {σ' : zd} (i : Clean g0 σ0.length) (m : σ0.length ≤ s.lim) (I : zke P κ gf.results.toList fn.results = true) (h : leave fn.raw fn.results (e,s) = some (v,σ')) (A : At' g0 w0 σ0 κ nt g w s a) :
  (e = .normal ∨ e = .ret) ∧ a.defers = [] ∧ ∃ u,(results gf a.tmps).run P w = .ok u w ∧ ∃ g',zf g' w σ' v u ∧ Rel g' w σ' ∧ Ext g0 w0 σ0 g' w σ':=by
 have t : (e = .normal ∨ e = .ret) ∧ (outs fn.raw s.lim s.st s.env fn.results).bind (zng s.lim s.st) = some (v,σ'):=by
  cases e <;> simp only [leave] at h
  case normal => exact ⟨.inl rfl,h⟩
  case ret => exact ⟨.inr rfl,h⟩
  all_goals cases h
 refine ⟨t.1,A.fr.df,?_⟩;have h:=t.2;rw [yb] at h;obtain ⟨vs,D,b⟩:=h;unfold zng at b;rw [ya] at b;obtain ⟨σ2,b,o⟩:=b;injection o with o h4;subst o h4;obtain ⟨us,H,E,n,J,y⟩:=zvL (P:=P) A.rel A.fr I D;have B:=zic n
 have k : (results gf a.tmps).run P w = .ok (if us.length = 1 then us.getD 0 undef else .tuple us.toArray) w:=by
  rw [zx0,Array.mapM_eq_mapM_toList];simp only [Sem.run_bind,Sem.run_map,E];simp only [Result.andThen_ok,Sem.run_pure]
  congr 1
  by_cases h : us.length = 1
  ·match us,h with
   | [x],_ => simp
  ·simp [h]
 have hval : ∀ {g' : G},zA g' w σ2 vs us → zf g' w σ2 (zEm vs) (if us.length = 1 then us.getD 0 undef else .tuple us.toArray):=fun {g'} hv => by
  have C:=zic hv;unfold zEm;split
  ·simp only [zA] at hv
   obtain ⟨x,xs,rfl,l,rfl⟩:=hv;simpa using l
  ·rename_i r
   have : us.length ≠ 1:=fun h => by
    rw [C] at h
    match vs,h with
    | [x],_ => exact r x rfl
   rw [if_neg this];simp only [zf];exact ⟨_,rfl,by simpa using hv⟩
 refine ⟨_,k,?_⟩;unfold znf at b;split at b
 ·rename_i hle
  injection b with b;subst b;refine ⟨g,hval (ztk (by omega) fun j c u i hu => ?_),A.rel,A.ext⟩;obtain ⟨v0,l,q⟩:=y j c i;obtain ⟨z,d,p⟩:=zkm n l;rw [hu] at d;injection d with d;subst d;exact zCI hle q p
 ·split at b
  ·rename_i f
   injection b with b;subst b;simp only [yd] at f;refine ⟨g.drop s.lim w,hval (ztk (by omega) fun j c u i hu => ?_),zxv A.rel f.2,zxw A.ext i m⟩;obtain ⟨v0,l,q⟩:=y j c i;obtain ⟨z,d,p⟩:=zkm n l;rw [hu] at d;injection d with d;subst d;exact zCv A.rel q p (zzD f.1 i)
  ·cases b
theorem zmm {gf : Func} {fn : Fun} {args : List V} {us : List Value} (m : Rel g w σ) (f : zA g w σ args us) (e : zkG κ = true) (a : κ.all (fun t => decide (t < gf.ntmps)) = true) (hlen : κ.length = fn.nslots) (p : fn.np ≤ fn.nslots) (q : fn.np ≤ gf.ntmps) (n : κ.take fn.np = yk fn.np) (k : args.length = fn.np) :
  At' (g.clean σ.length) w σ κ gf.ntmps (g.clean σ.length) w (enter fn args σ) { tmps:=us.toArray ++ yj (gf.ntmps - us.toArray.size) undef,defers:=[] }:=by
 have j:=zic f;refine ⟨Ext.refl _ _ _,zAJ m,⟨by simp; omega,by simp [enter]; omega,fun i t b => ?_,fun d t h => by simp at h,fun d t h => by simp at h,zqA e,fun t b => by simpa using List.all_eq_true.1 a t b,rfl⟩⟩
 by_cases c : i < args.length
 ·have : t = i:=by
   have e1 : (κ.take fn.np)[i]? = some t:=(by rw [zjI (by omega)]; exact b);rw [n,List.getElem?_range (by omega)] at e1;injection e1 with e1;exact e1.symm
  subst this
  have e2 : (args ++ yh (fn.nslots - args.length) vun).getD t vun = args[t]:=by
   rw [ye,List.getElem?_append_left c,yg c];rfl
  show zf (g.clean σ.length) w σ ((args ++ yh (fn.nslots - args.length) vun).getD t vun) _
  rw [e2];obtain ⟨u,o,l⟩:=zkm f (yg c)
  have e3 : (us.toArray ++ yj (gf.ntmps - us.toArray.size) undef).getD t undef = u:=by
   rw [Array.getD_eq_getD_getElem?,Array.getElem?_append_left (by simp; omega)];simp [o]
  rw [e3];exact zhZ (g:=g) (g':=g.clean σ.length) rfl rfl rfl _ _ l
 ·have e2 : (args ++ yh (fn.nslots - args.length) vun).getD i vun = vun:=by
   rw [ye,List.getElem?_append_right (by omega),List.getElem?_replicate];split <;> rfl
  show zf (g.clean σ.length) w σ ((args ++ yh (fn.nslots - args.length) vun).getD i vun) _
  rw [e2];simp only [vun,zf,zz]
theorem zFU (Q : DrawOk P CD) (A : zyG P CD T) (n : Nat) : zh3 P (zgp T (zU T n)):=by
 induction n using Nat.strongRecOn with
 | _ n ih =>
   intro f args σ v σ' h;unfold zgp at h;split at h
   ·rename_i fn t
    split at h
    ·rename_i r
     obtain ⟨gf,κ,m,j,a⟩:=(A f).1 fn t;unfold zw5 at a;simp only [yd,beq_iff_eq,decide_eq_true_eq] at a;obtain ⟨⟨⟨⟨⟨⟨⟨q,J⟩,B⟩,O⟩,C⟩,W⟩,K⟩,L⟩:=a;split at q
     ·rename_i c b
      refine ⟨⟨gf,c,m,j,b⟩,fun g w us I E => ?_⟩;rw [yb] at h;obtain ⟨⟨e,s⟩,hex,d⟩:=h;have V:=zmm (gf:=gf) I E J B O C W K r;have l:=zdR T n _ _ _ _ hex;have k:=(zpB (T:=T) (g0:=g.clean σ.length) (w0:=w) (σ0:=σ) (κ:=κ) (nt:=gf.ntmps) Q (zgy g σ.length) n ih).1 c fn.body _ e s q hex _ _ _ (Nat.le_refl _) V;refine calls_of_wp m b (wp_mono k fun x z w' M => ?_);obtain ⟨rfl,g',U⟩:=M;obtain ⟨S,H,u,R,p,D,N,y⟩:=zmJ (gf:=gf) (zgy g σ.length) (by rw [l.2]; exact Nat.le_add_right _ _) L d U
      have i : z.defers = [] ∧ ∃ v1,(results gf z.tmps).run P w' = .ok v1 w' ∧ ∃ u g',(Ending.returned v1) = .returned u ∧ zf g' w' σ' v u ∧ Rel g' w' σ' ∧ Ext g w σ g' w' σ' :=
       ⟨H,u,R,u,G.under g w p,rfl,zhZ (g:=p) (g':=G.under g w p) rfl rfl rfl _ _ D,zqV y N,zqE y⟩
      rcases S with rfl | rfl
      ·exact i
      ·exact i
     ·cases q
    ·cases h
   ·rename_i ext o
    exact (A f).2 ext o args σ v σ' h
   ·cases h
theorem sound (c : DrawOk P CD) (b : zyG P CD T) : zh3 P (call T):=fun f args σ v σ' h => by
 obtain ⟨n,a⟩:=zsJ h;exact zFU c b n f args σ v σ' a
end
end Go.A
