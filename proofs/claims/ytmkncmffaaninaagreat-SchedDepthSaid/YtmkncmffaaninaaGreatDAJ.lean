/- A part of the proof of SchedDepth. Conditions: none. -/
import Derived.Test.YtmkncmffaaninaaGreatDAI
set_option linter.unusedVariables false
set_option linter.unusedSimpArgs false
set_option linter.unusedSectionVars false
open Option renaming map_eq_some_iff → ya,bind_eq_some_iff → yb
open Bool renaming false_eq_true → yc,and_eq_true → yd
open List renaming getD_eq_getElem?_getD → ye,getElem?_eq_getElem → yg,replicate → yh,mapM_cons → yi,range → yk
open Array renaming getElem?_eq_some_iff → yf,replicate → yj
namespace Go.A
theorem zhW {s s' : St} {live : List Bool} {objs : Nat} (h : s.clear live objs = some s') : s'.base = s.base ∧ s'.lim = s.lim:=by
 unfold St.clear at h
 rw [ya] at h
 obtain ⟨σ',_,rfl⟩:=h
 exact ⟨rfl,rfl⟩
theorem zy8 {sp : Spec} {s s1 : St} (h : zBR sp s = some s1) : s1.base = s.base ∧ s1.lim = s.lim:=by
 unfold zBR at h
 rw [yb] at h
 obtain ⟨r,_,h⟩:=h
 unfold zCz at h
 split at h
 ·split at h
  ·cases h
  ·simp only [yb,ya] at h
   obtain ⟨es,_,ds,_,ds',_,h⟩:=h
   subst h
   exact ⟨rfl,rfl⟩
 ·cases h
theorem zdi (T : Nat → Option Entry) : ∀ (n : Nat) (c : Code) (s : St) (e : Ex) (s' : St),zN T n c s = some (e,s') → s'.base = s.base ∧ s'.lim = s.lim
 | 0,_,_,_,_,h => by simp [zN] at h
 | n + 1,c,s,e,s',h => by
   have ih:=zdi T n
   cases c <;> simp only [zN] at h
   case skip => injection h with h; injection h with h1 h2; subst h2; exact ⟨rfl,rfl⟩
   case label => injection h with h; injection h with h1 h2; subst h2; exact ⟨rfl,rfl⟩
   case ret => injection h with h; injection h with h1 h2; subst h2; exact ⟨rfl,rfl⟩
   case reg ops =>
    rw [ya] at h
    obtain ⟨r,_,h⟩:=h
    injection h with h1 h2
    subst h2
    exact ⟨rfl,rfl⟩
   case regd ps ops =>
    rw [ya] at h
    obtain ⟨r,_,h⟩:=h
    injection h with h1 h2
    subst h2
    exact ⟨rfl,rfl⟩
   case spec sp =>
    rw [ya] at h
    obtain ⟨s1,h1,h⟩:=h
    injection h with _ h2
    subst h2
    exact zy8 h1
   case exit id live objs =>
    rw [ya] at h
    obtain ⟨s1,h1,h⟩:=h
    injection h with _ h2
    subst h2
    exact zhW h1
   case goto id live objs =>
    rw [ya] at h
    obtain ⟨s1,h1,h⟩:=h
    injection h with _ h2
    subst h2
    exact zhW h1
   case seq a b =>
    rw [yb] at h
    obtain ⟨⟨e1,s1⟩,h1,h2⟩:=h
    have i1:=ih a s e1 s1 h1
    cases e1 <;> simp only [zso] at h2
    case normal => have i2:=ih b s1 e s' h2; exact ⟨i2.1.trans i1.1,i2.2.trans i1.2⟩
    all_goals
     injection h2 with h2
     injection h2 with _ h2
     subst h2
     exact i1
   case cond x a b =>
    unfold zrT at h
    split at h
    ·split at h
     ·exact ih _ _ _ _ h
     ·exact ih _ _ _ _ h
    ·cases h
   case block id body =>
    rw [ya] at h
    obtain ⟨⟨e1,s1⟩,h1,h2⟩:=h
    have i1:=ih _ _ _ _ h1
    unfold zs9 at h2
    split at h2
    ·rename_i heq
     injection heq with q1 q2
     subst q2
     split at h2 <;> (injection h2 with _ h2; subst h2; exact i1)
    ·injection h2 with _ h2
     subst h2
     exact i1
   case loop live objs body =>
    rw [yb] at h
    obtain ⟨⟨e1,s1⟩,h1,h2⟩:=h
    have i1:=ih _ _ _ _ h1
    cases e1 <;> simp only [zpT] at h2
    case normal =>
     rw [yb] at h2
     obtain ⟨s2,h2,h3⟩:=h2
     have i2:=zhW h2
     have i3:=ih _ _ _ _ h3
     exact ⟨i3.1.trans (i2.1.trans i1.1),i3.2.trans (i2.2.trans i1.2)⟩
    all_goals
     injection h2 with h2
     injection h2 with _ h2
     subst h2
     exact i1
   case scope body => exact ih _ _ _ _ h
   case sc body cur =>
    rw [yb] at h
    obtain ⟨⟨e1,s1⟩,h1,h2⟩:=h
    have i1:=ih _ _ _ _ h1
    unfold scK at h2
    split at h2
    ·rename_i heq
     injection heq with q1 q2
     subst q2
     split at h2
     ·have i2:=ih _ _ _ _ h2; exact ⟨i2.1.trans i1.1,i2.2.trans i1.2⟩
     ·injection h2 with h2; injection h2 with _ h2; subst h2; exact i1
    ·injection h2 with h2
     injection h2 with _ h2
     subst h2
     exact i1
structure Draws where
 a : List Tmp → Nat → Array Go.Oper → List Oper → Bool
 b : List Tmp → Nat → Array Go.Oper → List (Nat × Nat) → List Oper → Bool
 c : List Tmp → Nat → Go.Code → Spec → Bool
def zo (P : Program) (CD : Draws) (κ : List Tmp) (nt : Nat) : Go.Code → Code → Bool
 | .skip,.skip => true
 | c,.spec sp => CD.c κ nt c sp
 | .region _ ops draw,.regd ps xs => draw && CD.b κ nt ops ps xs
 | .region _ ops draw,.reg xs => if draw then CD.a κ nt ops xs else zqp P κ nt ops [] ops.toList xs
 | .seq a b,.seq a' b' => zo P CD κ nt a a' && zo P CD κ nt b b'
 | .cond c a b,.cond x a' b' => okX κ [] c x && zo P CD κ nt a a' && zo P CD κ nt b b'
 | .block id b,.block id' b' => (id == id') && zo P CD κ nt b b'
 | .loop b,.loop live _ b' => (live.length == κ.length) && zo P CD κ nt b b'
 | .exit id,.exit id' live _ => (id == id') && (live.length == κ.length)
 | .scope b,.scope b' => zo P CD κ nt b b'
 | .label l,.label l' => l == l'
 | .goto l,.goto l' live _ => (l == l') && (live.length == κ.length)
 | .ret,.ret live => live.length == κ.length
 | _,_ => false
def zzV (P : Program) (κ : List Tmp) (nt id : Nat) (gops : Array Go.Oper) (r r1 : R) : Prop:=∀ (g : G) (w : World) (a : Act) (Q : Exit → Act → World → Prop),
 Rel g w r.st → Fr κ [] nt g w r a → (∀ g' w' a' loc',Ext g w r.st g' w' r1.st → Rel g' w' r1.st → Fr κ loc' nt g' w' r1 a' → Q .normal a' w') → (Go.Code.region id gops true).wp P Q a w
structure DrawOk (P : Program) (CD : Draws) : Prop where
 a : ∀ (Cf : zad),zgQ P Cf → ∀ (κ : List Tmp) (nt id : Nat) (gops : Array Go.Oper) (xs : List Oper),CD.a κ nt gops xs = true → ∀ (r r1 : R),r.rs = [] → steps Cf xs r = some r1 → zzV P κ nt id gops r r1
 b : ∀ (Cf : zad),zgQ P Cf → ∀ (κ : List Tmp) (nt id : Nat) (gops : Array Go.Oper) (ps : List (Nat × Nat)) (xs : List Oper),CD.b κ nt gops ps xs = true → ∀ (r r1 : R),r.rs = [] → zwM Cf ps xs r = some r1 → zzV P κ nt id gops r r1
 lab : ∀ κ nt c sp,CD.c κ nt c sp = true → ∀ l,Go.findLabel c l = none
 c : ∀ (κ : List Tmp) (nt : Nat) (c : Go.Code) (sp : Spec),CD.c κ nt c sp = true → ∀ (s s1 : St),zBR sp s = some s1 → ∀ (g : G) (w : World) (a : Act) (Q : Exit → Act → World → Prop),
   Rel g w s.st → Fr κ [] nt g w ⟨[],s.env,s.st,s.base,s.lim⟩ a → (∀ g' w' a',Ext g w s.st g' w' s1.st → Rel g' w' s1.st → Fr κ [] nt g' w' ⟨[],s1.env,s1.st,s1.base,s1.lim⟩ a' → Q .normal a' w') → c.wp P Q a w
section
variable {P : Program} {CD : Draws} {κ : List Tmp} {nt : Nat}
theorem zkb (hD : DrawOk P CD) : ∀ {c : Go.Code} {ac : Code} {l : Nat},zo P CD κ nt c ac = true → findLabel ac l = none → Go.findLabel c l = none
 | c,.seq a' b',l,h,hf => by
   cases c <;> simp only [zo,yc] at h
   rename_i a b
   simp only [yd] at h
   simp only [findLabel] at hf
   split at hf
   ·cases hf
   ·rename_i hfa
    simp only [Go.findLabel,zkb hD h.1 hfa,zkb hD h.2 hf]
 | c,.label l',l,h,hf => by
   cases c <;> simp only [zo,yc] at h
   rename_i l''
   simp only [beq_iff_eq] at h
   subst h
   simp only [findLabel] at hf
   split at hf
   ·cases hf
   ·rename_i hne
    have : (l'' == l) = false:=by simpa using hne
    simp [Go.findLabel,this]
 | c,.skip,l,h,hf => by cases c <;> simp_all [zo,Go.findLabel]
 | c,.reg _,l,h,hf => by cases c <;> simp_all [zo,Go.findLabel]
 | c,.regd _ _,l,h,hf => by cases c <;> simp_all [zo,Go.findLabel]
 | c,.spec sp,l,h,hf => hD.lab κ nt c sp (by simpa only [zo] using h) l
 | c,.cond _ _ _,l,h,hf => by cases c <;> simp_all [zo,Go.findLabel]
 | c,.block _ _,l,h,hf => by cases c <;> simp_all [zo,Go.findLabel]
 | c,.loop _ _ _,l,h,hf => by cases c <;> simp_all [zo,Go.findLabel]
 | c,.exit _ _ _,l,h,hf => by cases c <;> simp_all [zo,Go.findLabel]
 | c,.scope _,l,h,hf => by cases c <;> simp_all [zo,Go.findLabel]
 | c,.sc _ _,l,h,hf => by cases c <;> simp_all [zo]
 | c,.goto _ _ _,l,h,hf => by cases c <;> simp_all [zo,Go.findLabel]
 | c,.ret _,l,h,hf => by cases c <;> simp_all [zo,Go.findLabel]
theorem zmJ (hD : DrawOk P CD) : ∀ {c : Go.Code} {ac ar : Code} {l : Nat},zo P CD κ nt c ac = true → findLabel ac l = some ar → ∃ r,Go.findLabel c l = some r ∧ zo P CD κ nt r ar = true
 | c,.seq a' b',ar,l,h,hf => by
   cases c <;> simp only [zo,yc] at h
   rename_i a b
   simp only [yd] at h
   simp only [findLabel] at hf
   split at hf
   ·rename_i rest hfa
    injection hf with hf
    subst hf
    obtain ⟨r,h1,h2⟩:=zmJ hD h.1 hfa
    exact ⟨.seq r b,by simp only [Go.findLabel,h1],by simp [zo,h2,h.2]⟩
   ·rename_i hfa
    obtain ⟨r,h1,h2⟩:=zmJ hD h.2 hf
    exact ⟨r,by simp only [Go.findLabel,zkb hD h.1 hfa,h1],h2⟩
 | c,.label l',ar,l,h,hf => by
   cases c <;> simp only [zo,yc] at h
   rename_i l''
   simp only [beq_iff_eq] at h
   subst h
   simp only [findLabel] at hf
   split at hf
   ·rename_i he
    injection hf with hf
    subst hf
    exact ⟨.skip,by simp [Go.findLabel,he],rfl⟩
   ·cases hf
 | c,.skip,_,l,h,hf => by simp [findLabel] at hf
 | c,.reg _,_,l,h,hf => by simp [findLabel] at hf
 | c,.cond _ _ _,_,l,h,hf => by simp [findLabel] at hf
 | c,.block _ _,_,l,h,hf => by simp [findLabel] at hf
 | c,.loop _ _ _,_,l,h,hf => by simp [findLabel] at hf
 | c,.exit _ _ _,_,l,h,hf => by simp [findLabel] at hf
 | c,.scope _,_,l,h,hf => by simp [findLabel] at hf
 | c,.sc _ _,_,l,h,hf => by simp [findLabel] at hf
 | c,.goto _ _ _,_,l,h,hf => by simp [findLabel] at hf
 | c,.ret _,_,l,h,hf => by simp [findLabel] at hf
end
section
variable {P : Program} {a : Act} {w : World} {Q : Exit → Act → World → Prop}
def RL (P : Program) (c : Go.Code) (Q : Exit → Act → World → Prop) (a : Act) (w : World) : Prop :=
 ∀ (b : Frame) (k : List Item) (cs : List Frame),∃ e a' w',Q e a' w' ∧ Arrives P (lone (b.at a (.code c :: .inLoop c :: k)) cs w) b k cs e a' w'
theorem zAF {c : Go.Code} (h : RL P c Q a w) : (Go.Code.loop c).wp P Q a w:=fun b k cs =>
 let ⟨e,a',w',q,r⟩:=h b k cs; ⟨e,a',w',q,.of_steps (.one step_loop) r⟩
theorem zxX {c : Go.Code} (h : c.wp P (Exit.then (RL P c Q) Q) a w) : RL P c Q a w:=by
 intro b k cs
 obtain ⟨e,a₁,w₁,hq,harr⟩:=h b (.inLoop c :: k) cs
 cases e with
 | normal =>
   obtain ⟨e₂,a₂,w₂,hq₂,harr₂⟩:=hq b k cs
   exact ⟨e₂,a₂,w₂,hq₂,.of_steps (Steps.trans harr (.one step_inLoop)) harr₂⟩
 | exit id => exact ⟨_,a₁,w₁,hq,.pass (x:=.inLoop c) rfl (fun _ _ => .inl (by simp)) harr⟩
 | goto l => exact ⟨_,a₁,w₁,hq,.pass (x:=.inLoop c) rfl (fun _ _ => .inl (by simp)) harr⟩
 | ret => exact ⟨_,a₁,w₁,hq,.pass (x:=.inLoop c) rfl (fun _ _ => .inl (by simp)) harr⟩
 | panic ch => exact ⟨_,a₁,w₁,hq,.pass (x:=.inLoop c) rfl (fun _ _ => .inl (by simp)) harr⟩
 | outgrown => exact ⟨_,a₁,w₁,hq,.pass (x:=.inLoop c) rfl (fun _ _ => .inl (by simp)) harr⟩
def RS (P : Program) (body : Go.Code) (Q : Exit → Act → World → Prop) (rest : Go.Code) (a : Act) (w : World) : Prop :=
 ∀ (b : Frame) (k : List Item) (cs : List Frame),∃ e a' w',Q e a' w' ∧ Arrives P (lone (b.at a (.code rest :: .inScope body :: k)) cs w) b k cs e a' w'
def Exit.inSc (P : Program) (body : Go.Code) (Q : Exit → Act → World → Prop) : Exit → Act → World → Prop
 | .goto l,a,w => match Go.findLabel body l with
   | some r => RS P body Q r a w
   | none => Q (.goto l) a w
 | e,a,w => Q e a w
theorem zBY {body : Go.Code} (h : RS P body Q body a w) : (Go.Code.scope body).wp P Q a w:=fun b k cs =>
 let ⟨e,a',w',q,r⟩:=h b k cs; ⟨e,a',w',q,.of_steps (.one step_scope) r⟩
theorem zC9 {body rest : Go.Code} (h : rest.wp P (Exit.inSc P body Q) a w) : RS P body Q rest a w:=by
 intro b k cs
 obtain ⟨e,a₁,w₁,hq,harr⟩:=h b (.inScope body :: k) cs
 cases e with
 | normal => exact ⟨.normal,a₁,w₁,hq,Steps.trans harr (.one step_inScope)⟩
 | exit id => exact ⟨.exit id,a₁,w₁,hq,fun k' hk => harr k' (by simp [exitTo,hk])⟩
 | goto l =>
   simp only [Exit.inSc] at hq
   cases hf : Go.findLabel body l with
   | none =>
     rw [hf] at hq
     exact ⟨.goto l,a₁,w₁,hq,fun k' hk => harr k' (by simp [gotoIn,hf,hk])⟩
   | some r =>
     rw [hf] at hq
     obtain ⟨e₂,a₂,w₂,hq₂,harr₂⟩:=hq b k cs
     exact ⟨e₂,a₂,w₂,hq₂,.of_steps (harr _ (by simp [gotoIn,hf])) harr₂⟩
 | ret => exact ⟨_,a₁,w₁,hq,harr⟩
 | panic ch => exact ⟨_,a₁,w₁,hq,harr⟩
 | outgrown => exact ⟨_,a₁,w₁,hq,harr⟩
end
def zkJ : Ex → Exit
 | .normal => .normal
 | .exit i => .exit i
 | .goto l => .goto l
 | .ret => .ret
section
variable {P : Program} {CD : Draws} {κ : List Tmp} {nt : Nat} {g0 : G} {w0 : World} {σ0 : zd} {T : Nat → Option Entry}
def zCm (g0 : G) (w0 : World) (σ0 : zd) (κ : List Tmp) (nt : Nat) (e : Ex) (s' : St) : Exit → Act → World → Prop:=fun x a w => x = zkJ e ∧ ∃ g,At' g0 w0 σ0 κ nt g w s' a
theorem zoc (hD : DrawOk P CD) (hcl : Clean g0 σ0.length) : ∀ (n : Nat),(∀ m,m < n → zgQ P (zfy T (zN T m))) →
  (∀ (c : Go.Code) (ac : Code) (s : St) (e : Ex) (s' : St),zo P CD κ nt c ac = true → zN T n ac s = some (e,s') → ∀ g w a,σ0.length ≤ s.base → At' g0 w0 σ0 κ nt g w s a → c.wp P (zCm g0 w0 σ0 κ nt e s') a w) ∧
  (∀ (gb gc : Go.Code) (ab ac : Code) (s : St) (e : Ex) (s' : St),zo P CD κ nt gb ab = true → zo P CD κ nt gc ac = true → zN T n (.sc ab ac) s = some (e,s') → ∀ g w a,σ0.length ≤ s.base → At' g0 w0 σ0 κ nt g w s a → RS P gb (zCm g0 w0 σ0 κ nt e s') gc a w) ∧
  (∀ (gb : Go.Code) (live : List Bool) (objs : Nat) (ab : Code) (s : St) (e : Ex) (s' : St),live.length = κ.length → zo P CD κ nt gb ab = true → zN T n (.loop live objs ab) s = some (e,s') → ∀ g w a,σ0.length ≤ s.base → At' g0 w0 σ0 κ nt g w s a → RL P gb (zCm g0 w0 σ0 κ nt e s') a w)
 | 0,_ => ⟨fun _ _ _ _ _ _ h => by simp [zN] at h,fun _ _ _ _ _ _ _ _ _ h => by simp [zN] at h,fun _ _ _ _ _ _ _ _ _ h => by simp [zN] at h⟩
 | n + 1,hS => by
   obtain ⟨ih1,ih2,ih3⟩:=zoc hD hcl n fun m hm => hS m (by omega)
   have hSn:=hS n (by omega)
   refine ⟨fun c ac s e s' hc h g w a hb A => ?_,fun gb gc ab ac s e s' hcb hcc h g w a hb A => ?_,fun gb live objs ab s e s' hl hc h g w a hb A => ?_⟩
   ·cases ac <;> simp only [zN] at h
    case skip =>
     injection h with h
     injection h with h1 h2
     subst h1 h2
     cases c <;> simp only [zo,yc] at hc
     exact wp_skip ⟨rfl,g,A⟩
    case label l =>
     injection h with h
     injection h with h1 h2
     subst h1 h2
     cases c <;> simp only [zo,yc] at hc
     exact wp_label ⟨rfl,g,A⟩
    case ret live =>
     injection h with h
     injection h with h1 h2
     subst h1 h2
     cases c <;> simp only [zo,yc,beq_iff_eq] at hc
     exact wp_ret ⟨rfl,g,A.ext,A.rel,A.fr.clr hc⟩
    case exit id live objs =>
     rw [ya] at h
     obtain ⟨s1,h1,h⟩:=h
     injection h with h2 h3
     subst h2 h3
     cases c <;> simp only [zo,yc,yd,beq_iff_eq] at hc
     obtain ⟨rfl,hl⟩:=hc
     obtain ⟨g',A'⟩:=zn6 hcl hb hl h1 A
     exact wp_exit ⟨rfl,g',A'⟩
    case goto l live objs =>
     rw [ya] at h
     obtain ⟨s1,h1,h⟩:=h
     injection h with h2 h3
     subst h2 h3
     cases c <;> simp only [zo,yc,yd,beq_iff_eq] at hc
     obtain ⟨rfl,hl⟩:=hc
     obtain ⟨g',A'⟩:=zn6 hcl hb hl h1 A
     exact wp_goto ⟨rfl,g',A'⟩
    case reg xs =>
     rw [ya] at h
     obtain ⟨r1,h1,h⟩:=h
     injection h with h2 h3
     subst h2 h3
     have hend : ∀ g' w' a' loc',Ext g w s.st g' w' r1.st → Rel g' w' r1.st → Fr κ loc' nt g' w' r1 a' → zCm g0 w0 σ0 κ nt .normal ⟨r1.env,r1.st,s.base,s.lim⟩ .normal a' w':=fun g' w' a' loc' H R1 F1 =>
      ⟨rfl,g',A.ext.trans H,R1,Fr.bare (rs:=r1.rs) (b:=r1.base) (l:=r1.lim) F1⟩
     cases c <;> simp only [zo,yc] at hc
     rename_i id ops draw
     cases draw
     ·simp only [yc,if_false] at hc
      refine wp_region ?_
      rw [List.range_eq_range']
      have:=zsR (Q:=zCm g0 w0 σ0 κ nt .normal ⟨r1.env,r1.st,s.base,s.lim⟩) hSn ops.toList xs 0 (loc:=[]) (fun j => by simp) hc h1 A.rel A.fr hend
      simpa using this
     ·simp only [if_true] at hc
      exact hD.a _ hSn κ nt id ops xs hc _ r1 rfl h1 g w a _ A.rel A.fr hend
    case regd ps xs =>
     rw [ya] at h
     obtain ⟨r1,h1,h⟩:=h
     injection h with h2 h3
     subst h2 h3
     have hend : ∀ g' w' a' loc',Ext g w s.st g' w' r1.st → Rel g' w' r1.st → Fr κ loc' nt g' w' r1 a' → zCm g0 w0 σ0 κ nt .normal ⟨r1.env,r1.st,s.base,s.lim⟩ .normal a' w':=fun g' w' a' loc' H R1 F1 =>
      ⟨rfl,g',A.ext.trans H,R1,Fr.bare (rs:=r1.rs) (b:=r1.base) (l:=r1.lim) F1⟩
     cases c <;> simp only [zo,yc,yd] at hc
     rename_i id ops draw
     obtain ⟨rfl,hc⟩:=hc
     exact hD.b _ hSn κ nt id ops ps xs hc _ r1 rfl h1 g w a _ A.rel A.fr hend
    case spec sp =>
     rw [ya] at h
     obtain ⟨s1,h1,h⟩:=h
     injection h with h2 h3
     subst h2 h3
     have hc' : CD.c κ nt c sp = true:=by simpa only [zo] using hc
     exact hD.c κ nt c sp hc' s s1 h1 g w a _ A.rel A.fr fun g' w' a' H R1 F1 => ⟨rfl,g',A.ext.trans H,R1,F1⟩
    case seq a1 b1 =>
     rw [yb] at h
     obtain ⟨⟨e1,s1⟩,h1,h2⟩:=h
     cases c <;> simp only [zo,yc,yd] at hc
     have hbase:=zdi T n _ _ _ _ h1
     refine wp_seq (wp_mono (ih1 _ _ _ _ _ hc.1 h1 g w a hb A) fun x a' w' hx => ?_)
     obtain ⟨rfl,g',A'⟩:=hx
     cases e1 <;> simp only [zso] at h2 <;> simp only [zkJ,Exit.then]
     case normal => exact ih1 _ _ _ _ _ hc.2 h2 g' w' a' (by rw [hbase.1]; exact hb) A'
     all_goals
      injection h2 with h2
      injection h2 with h2 h3
      subst h2 h3
      exact ⟨rfl,g',A'⟩
    case cond x a1 b1 =>
     unfold zrT at h
     cases c <;> simp only [zo,yc,yd] at hc
     have hv:=A.fr.get hc.1.1
     split at h
     ·rename_i t hget
      rw [hget] at hv
      obtain ⟨ev,_⟩:=zA hv
      refine wp_cond_split ev (fun ht => ?_) (fun ht => ?_)
      ·rw [if_pos ht] at h
       exact ih1 _ _ _ _ _ hc.1.2 h g w a hb A
      ·rw [if_neg (by simp [ht])] at h
       exact ih1 _ _ _ _ _ hc.2 h g w a hb A
     ·cases h
    case block id body =>
     rw [ya] at h
     obtain ⟨⟨e1,s1⟩,h1,h2⟩:=h
     cases c <;> simp only [zo,yc,yd,beq_iff_eq] at hc
     obtain ⟨rfl,hc⟩:=hc
     refine wp_block (wp_mono (ih1 _ _ _ _ _ hc h1 g w a hb A) fun x a' w' hx => ?_)
     obtain ⟨rfl,g',A'⟩:=hx
     cases e1 <;> simp only [zs9] at h2 <;> simp only [zkJ,Exit.inBlock]
     case exit id' =>
      split at h2
      ·rename_i he
       injection h2 with h2 h3
       subst h2 h3
       rw [if_pos he]
       exact ⟨rfl,g',A'⟩
      ·rename_i he
       injection h2 with h2 h3
       subst h2 h3
       rw [if_neg he]
       exact ⟨rfl,g',A'⟩
     all_goals
      injection h2 with h2 h3
      subst h2 h3
      exact ⟨rfl,g',A'⟩
    case loop live objs body =>
     cases c <;> simp only [zo,yc,yd,beq_iff_eq] at hc
     refine zAF (zxX ?_)
     rw [yb] at h
     obtain ⟨⟨e1,s1⟩,h1,h2⟩:=h
     have hbase:=zdi T n _ _ _ _ h1
     refine wp_mono (ih1 _ _ _ _ _ hc.2 h1 g w a hb A) fun x a' w' hx => ?_
     obtain ⟨rfl,g',A'⟩:=hx
     cases e1 <;> simp only [zpT] at h2 <;> simp only [zkJ,Exit.then]
     case normal =>
      rw [yb] at h2
      obtain ⟨s2,h2,h3⟩:=h2
      obtain ⟨g2,A2⟩:=zn6 hcl (by rw [hbase.1]; exact hb) hc.1 h2 A'
      exact ih3 _ _ _ _ _ _ _ hc.1 hc.2 h3 g2 w' a' (by rw [(zhW h2).1,hbase.1]; exact hb) A2
     all_goals
      injection h2 with h2
      injection h2 with h2 h3
      subst h2 h3
      exact ⟨rfl,g',A'⟩
    case scope body =>
     cases c <;> simp only [zo,yc] at hc
     exact zBY (ih2 _ _ _ _ _ _ _ hc hc h g w a hb A)
    case sc => cases c <;> simp [zo] at hc
   ·simp only [zN] at h
    rw [yb] at h
    obtain ⟨⟨e1,s1⟩,h1,h2⟩:=h
    have hbase:=zdi T n _ _ _ _ h1
    refine zC9 (wp_mono (ih1 _ _ _ _ _ hcc h1 g w a hb A) fun x a' w' hx => ?_)
    obtain ⟨rfl,g',A'⟩:=hx
    cases e1 <;> simp only [scK] at h2 <;> simp only [zkJ,Exit.inSc]
    case goto l =>
     cases hf : findLabel ab l with
     | none =>
       rw [hf] at h2
       rw [zkb hD hcb hf]
       injection h2 with h2
       injection h2 with h2 h3
       subst h2 h3
       exact ⟨rfl,g',A'⟩
     | some ar =>
       rw [hf] at h2
       obtain ⟨rr,q1,q2⟩:=zmJ hD hcb hf
       rw [q1]
       exact ih2 _ _ _ _ _ _ _ hcb q2 h2 g' w' a' (by rw [hbase.1]; exact hb) A'
    all_goals
     injection h2 with h2
     injection h2 with h2 h3
     subst h2 h3
     exact ⟨rfl,g',A'⟩
   ·simp only [zN] at h
    refine zxX ?_
    rw [yb] at h
    obtain ⟨⟨e1,s1⟩,h1,h2⟩:=h
    have hbase:=zdi T n _ _ _ _ h1
    refine wp_mono (ih1 _ _ _ _ _ hc h1 g w a hb A) fun x a' w' hx => ?_
    obtain ⟨rfl,g',A'⟩:=hx
    cases e1 <;> simp only [zpT] at h2 <;> simp only [zkJ,Exit.then]
    case normal =>
     rw [yb] at h2
     obtain ⟨s2,h2,h3⟩:=h2
     obtain ⟨g2,A2⟩:=zn6 hcl (by rw [hbase.1]; exact hb) hl h2 A'
     exact ih3 _ _ _ _ _ _ _ hl hc h3 g2 w' a' (by rw [(zhW h2).1,hbase.1]; exact hb) A2
    all_goals
     injection h2 with h2
     injection h2 with h2 h3
     subst h2 h3
     exact ⟨rfl,g',A'⟩
end
end Go.A
namespace Go.A
def zja (P : Program) (κ : List Tmp) : List ResultVar → List (Nat × Option (Option Nat)) → Bool
 | [],[] => true
 | .tmp t :: rs,(i,none) :: xs => (κ[i]? == some t) && zja P κ rs xs
 | .cell t ty :: rs,(i,some sz) :: xs => (κ[i]? == some t) && zDO P ty sz && zja P κ rs xs
 | _,_ => false
def zjl : List Nat → Bool
 | [] => true
 | x :: xs => !xs.contains x && zjl xs
theorem zoM : ∀ {xs : List Nat},zjl xs = true → xs.Nodup
 | [],_ => List.nodup_nil
 | x :: xs,h => by
   simp only [zjl,yd,Bool.not_eq_true'] at h
   exact List.nodup_cons.2 ⟨by simpa using h.1,zoM h.2⟩
def zvR (P : Program) (CD : Draws) (κ : List Tmp) (gf : Func) (fn : Fun) : Bool :=
 (match gf.body with
  | some c => zo P CD κ gf.ntmps c fn.body
  | none => false) &&
 zjl κ && κ.all (fun t => decide (t < gf.ntmps)) && κ.length == fn.nslots && decide (fn.np ≤ fn.nslots) && decide (fn.np ≤ gf.ntmps) && (κ.take fn.np == yk fn.np) && zja P κ gf.results.toList fn.results
def zw3 (P : Program) (CD : Draws) (T : Nat → Option Entry) : Prop:=∀ f,
 (∀ fn, T f = some (.fn fn) → ∃ gf κ, P.funcs[f]? = some gf ∧ (gf.name == "runtime.NumGoroutine") = false ∧ zvR P CD κ gf fn = true) ∧
 (∀ ext,T f = some (.ext ext) → ∀ args σ v σ',ext args σ = some (v,σ') → Enters P f ∧ ∀ g w us,Rel g w σ → zz g w σ args us → Calls P f us.toArray w fun e w' => ∃ u g',e = .returned u ∧ zf g' w' σ' v u ∧ Rel g' w' σ' ∧ Ext g w σ g' w' σ')
section
variable {P : Program} {CD : Draws} {κ : List Tmp} {nt : Nat} {g : G} {w : World} {σ : zd} {T : Nat → Option Entry} {a : Act}
theorem zuo {t : TypeId} {x : Operand} {u : Value} (h : (execOp a.eval { (default : Go.Oper) with op:=.load t x }).run P w = .ok (.value u) w) : ∃ ad,a.eval x = .pointer (some ad) ∧ (loadVar t ad).run P w = .ok u w ∨ ¬ ∃ ad,a.eval x = .pointer (some ad):=by
 by_cases hx : ∃ ad,a.eval x = .pointer (some ad)
 ·obtain ⟨ad,hx⟩:=hx
  refine ⟨ad,.inl ⟨hx,?_⟩⟩
  unfold execOp at h
  simp only [hx] at h
  simp only [Instr.loadAt,Instr.sureAddr,Sem.run_bind,Sem.run_pure,Result.andThen_ok] at h
  cases hr : (loadVar t ad).run P w with
  | ok v w1 =>
    rw [hr] at h
    simp only [Result.andThen_ok] at h
    injection h with h1 h2
    injection h1 with h1
    rw [h1,h2]
  | halt x w1 =>
    rw [hr] at h
    simp [Result.andThen] at h
 ·exact ⟨⟨0,0,none⟩,.inr hx⟩
def zvl (tmps : Array Value) : ResultVar → Sem Value
 | .tmp t => pure (tmps.getD t undef)
 | .cell ad t => do loadVar t (← asAddr (tmps.getD ad undef))
theorem zv8 (gf : Func) (tmps : Array Value) : results gf tmps = (do
  let vs ← gf.results.mapM (zvl tmps)
  pure (if h : vs.size = 1 then vs[0] else .tuple vs)):=by
 unfold results
 congr 1
theorem zut {r : R} (R0 : Rel g w r.st) (F : Fr κ [] nt g w r a) : ∀ {rs : List ResultVar} {xs : List (Nat × Option (Option Nat))} {raw : Bool} {lim : Nat} {vs : List V},zja P κ rs xs = true → outs raw lim r.st r.env xs = some vs →
  ∃ us v0s,(rs.mapM (zvl a.tmps)).run P w = .ok us w ∧ zz g w r.st v0s us ∧ v0s.length = vs.length ∧ ∀ (i : Nat) (v : V),vs[i]? = some v → ∃ v0,v0s[i]? = some v0 ∧ zx6 raw lim r.st v0 = some v
 | [],[],raw,lim,vs,_,h => by
   simp only [outs,Option.some.injEq] at h
   subst h
   exact ⟨[],[],by simp,by simp only [zz],rfl,fun i v h => by simp at h⟩
 | .tmp t :: rs,(i,none) :: xs,raw,lim,vs,hc,h => by
   simp only [zja,yd,beq_iff_eq] at hc
   simp only [outs] at h
   obtain ⟨v,vs',h1,h2,rfl⟩:=zes h
   obtain ⟨us,v0s,k1,k2,k3,k4⟩:=zut R0 F hc.2 h2
   simp only [ztp,Option.bind_some] at h1
   refine ⟨a.tmps.getD t undef :: us,r.env.getD i vun :: v0s,by simp [yi,zvl,k1],by simp only [zz]; exact ⟨_,_,rfl,F.env i t hc.1,k2⟩,by simp [k3],fun j v' hj => ?_⟩
   cases j with
   | zero => simp at hj; subst hj; exact ⟨_,by simp,h1⟩
   | succ j => simpa using k4 j v' (by simpa using hj)
 | .cell t ty :: rs,(i,some sz) :: xs,raw,lim,vs,hc,h => by
   simp only [zja,yd,beq_iff_eq] at hc
   simp only [outs] at h
   obtain ⟨v,vs',h1,h2,rfl⟩:=zes h
   obtain ⟨us,v0s,k1,k2,k3,k4⟩:=zut R0 F hc.2 h2
   rw [yb] at h1
   obtain ⟨v0,h3,h4⟩:=h1
   simp only [ztp] at h3
   have hx : zf g w r.st (r.env.getD i vun) (a.eval (.tmp t)):=F.env i t hc.1.1
   obtain ⟨u,q1,q2⟩:=zvB (P:=P) (o:={ (default : Go.Oper) with op:=.load ty (.tmp t) }) R0 rfl (zmN hc.1.2) hx h3
   have hptr : ∃ ad,a.eval (.tmp t) = .pointer (some ad):=by
    unfold ald at h3
    split at h3 <;> first
     | (rename_i he; rw [he] at hx; simp only [zf,zw] at hx; first | (obtain ⟨_,_,_,_,_,_,ad,e⟩:=hx; exact ⟨ad,e⟩) | (obtain ⟨_,_,e,_⟩:=hx; exact ⟨_,e⟩))
     | cases h3
   obtain ⟨ad,had | hno⟩:=zuo q1
   ·have he : a.tmps.getD t undef = .pointer (some ad):=had.1
    refine ⟨u :: us,v0 :: v0s,by simp only [yi,zvl,he,asAddr,Sem.run_bind,Sem.run_pure,Result.andThen_ok,had.2,k1],by simp only [zz]; exact ⟨_,_,rfl,q2,k2⟩,by simp [k3],fun j v' hj => ?_⟩
    cases j with
    | zero => simp at hj; subst hj; exact ⟨_,by simp,h4⟩
    | succ j => simpa using k4 j v' (by simpa using hj)
   ·exact absurd hptr hno
 | [],_ :: _,_,_,_,hc,_ => by simp [zja] at hc
 | .tmp _ :: _,[],_,_,_,hc,_ => by simp [zja] at hc
 | .cell _ _ :: _,[],_,_,_,hc,_ => by simp [zja] at hc
 | .tmp _ :: _,(_,some _) :: _,_,_,_,hc,_ => by simp [zja] at hc
 | .cell _ _ :: _,(_,none) :: _,_,_,_,hc,_ => by simp [zja] at hc
theorem znO {lim : Nat} (hl : σ.length ≤ lim) : ∀ {cs : List C} {xs : List Fz},zim lim σ cs = some xs → zdl cs = some xs
 | [],xs,h => by simpa only [zim,zdl] using h
 | c :: cs,xs,h => by
   simp only [zim] at h
   simp only [zdl]
   unfold zfE at h ⊢
   split at h
   ·rename_i x ys h1 h2
    injection h with h
    subst h
    rw [znO hl h2]
    have : zux c = some x:=by
     unfold zBJ at h1
     split at h1
     ·split at h1
      ·rename_i hid
       rw [ya] at h1
       obtain ⟨_,h1,_⟩:=h1
       rw [yb] at h1
       obtain ⟨_,h1,_⟩:=h1
       have:=zb h1
       omega
      ·cases h1
     ·exact h1
    rw [this]
   ·cases h
theorem znw (R0 : Rel g w σ) {lim : Nat} : ∀ {cs : List C} {xs : List Fz} {us : List Value},zim lim σ cs = some xs → zv g w σ cs us → zv (g.drop lim w) w (σ.take lim) (xs.map C.f) us
 | [],xs,us,h,hr => by
   simp only [zim,Option.some.injEq] at h
   subst h
   simpa only [List.map_nil,zv] using hr
 | c :: cs,xs,us,h,hr => by
   simp only [zim] at h
   unfold zfE at h
   split at h
   ·rename_i x ys h1 h2
    injection h with h
    subst h
    simp only [zv] at hr
    obtain ⟨v,vs,rfl,k1,k2⟩:=hr
    simp only [List.map_cons,zv]
    refine ⟨v,vs,rfl,?_,znw R0 h2 k2⟩
    unfold zBJ at h1
    split at h1
    ·split at h1
     ·rename_i id ver lo n hid
      rw [ya] at h1
      obtain ⟨ys,h1,rfl⟩:=h1
      simp only [zw]
      refine zm8 R0 (fun b o h => .inl h) (fun o => ?_) h1 (by simpa only [zf] using k1)
      by_cases hx : ∃ sz es,σ[id]? = some (.cells ver sz es) ∧ es ≠ []
      ·obtain ⟨sz,es,q1,q2⟩:=hx
       obtain ⟨k0,_,arr,t,k3,_⟩:=R0.ob id _ q1 q2
       exact .inl (.inr ⟨(yf.1 k3).1,id,hid,k0⟩)
      ·exact .inr hx
     ·cases h1
    ·simp only [zw]
     exact zb5 zgD _ v (zfG h1 k1)
   ·cases h
theorem zCb {lim : Nat} {raw : Bool} {v0 v : V} {u : Value} (hl : σ.length ≤ lim) (h : zx6 raw lim σ v0 = some v) (hv : zf g w σ v0 u) : zf g w σ v u:=by
 unfold zx6 at h
 split at h
 ·injection h with h; subst h; exact hv
 ·unfold zCw at h
  split at h
  ·split at h
   ·rename_i id ver lo n hid
    rw [ya] at h
    obtain ⟨xs,h,_⟩:=h
    rw [yb] at h
    obtain ⟨ob,h,_⟩:=h
    have:=zb h
    omega
   ·cases h
  ·injection h with h
   subst h
   simp only [zf,zw] at hv
   simp only [vsl,zf,zw]
   exact hv.1
  ·rw [ya] at h
   obtain ⟨xs,h,rfl⟩:=h
   simp only [zf] at hv
   obtain ⟨us,h1,h2⟩:=hv
   simp only [zAq,zf]
   exact ⟨us,h1,zmR (zgM.refl _ _) rfl (znO hl h) h2⟩
  ·injection h with h; subst h; exact hv
theorem zAQ (R0 : Rel g w σ) {lim : Nat} {raw : Bool} {v0 v : V} {u : Value} (h : zx6 raw lim σ v0 = some v) (hv : zf g w σ v0 u) (hlt : v.lt lim = true) : zf (g.drop lim w) w (σ.take lim) v u:=by
 unfold zx6 at h
 split at h
 ·injection h with h; subst h; exact zjn _ _ hv hlt
 ·unfold zCw at h
  split at h
  ·split at h
   ·rename_i id ver lo n hid
    rw [ya] at h
    obtain ⟨xs,h,rfl⟩:=h
    simp only [vsl,zf,zw]
    refine zm8 R0 (fun b o h => .inl h) (fun o => ?_) h hv
    by_cases hx : ∃ sz es,σ[id]? = some (.cells ver sz es) ∧ es ≠ []
    ·obtain ⟨sz,es,k1,k2⟩:=hx
     obtain ⟨k0,_,arr,t,k3,_⟩:=R0.ob id _ k1 k2
     exact .inl (.inr ⟨(yf.1 k3).1,id,hid,k0⟩)
    ·exact .inr hx
   ·cases h
  ·injection h with h
   subst h
   simp only [zf,zw] at hv
   simp only [vsl,zf,zw]
   exact zb5 zgD _ u hv.1
  ·rw [ya] at h
   obtain ⟨xs,h,rfl⟩:=h
   simp only [zf] at hv
   obtain ⟨us,h1,h2⟩:=hv
   simp only [zAq,zf]
   exact ⟨us,h1,znw R0 h h2⟩
  ·injection h with h; subst h; exact zjn _ _ hv hlt
theorem zhx : ∀ {vs : List V} {us : List Value},zz g w σ vs us → us.length = vs.length
 | [],us,h => by simp only [zz] at h; simp [h]
 | c :: cs,us,h => by
   simp only [zz] at h
   obtain ⟨v,vs,rfl,_,h3⟩:=h
   simp [zhx h3]
theorem zrO : ∀ {vs : List V} {us : List Value},us.length = vs.length → (∀ (j : Nat) (c : V) (u : Value),vs[j]? = some c → us[j]? = some u → zf g w σ c u) → zz g w σ vs us
 | [],us,hl,_ => by simp only [zz]; exact List.eq_nil_of_length_eq_zero (by simpa using hl)
 | c :: cs,[],hl,_ => by simp at hl
 | c :: cs,v :: vs,hl,h => by
   simp only [zz]
   exact ⟨v,vs,rfl,h 0 c v (by simp) (by simp),zrO (by simpa using hl) fun j c u hc hu => h (j + 1) c u (by simpa using hc) (by simpa using hu)⟩
theorem zzE {n : Nat} : ∀ {vs : List V} {i : Nat} {v : V},V.lts n vs = true → vs[i]? = some v → v.lt n = true
 | [],_,_,_,h => by simp at h
 | x :: xs,0,v,hl,h => by
   simp only [V.lts,yd] at hl
   simp at h
   subst h
   exact hl.1
 | x :: xs,i + 1,v,hl,h => by
   simp only [V.lts,yd] at hl
   exact zzE hl.2 (by simpa using h)
theorem zld {g0 : G} {w0 : World} {σ0 : zd} {fn : Fun} {gf : Func} {e : Ex} {s : St} {v : V} {σ' : zd} (hc : Clean g0 σ0.length) (hlim : σ0.length ≤ s.lim) (hr : zja P κ gf.results.toList fn.results = true) (h : leave fn.raw fn.results (e,s) = some (v,σ')) (A : At' g0 w0 σ0 κ nt g w s a) :
  (e = .normal ∨ e = .ret) ∧ a.defers = [] ∧ ∃ u,(results gf a.tmps).run P w = .ok u w ∧ ∃ g',zf g' w σ' v u ∧ Rel g' w σ' ∧ Ext g0 w0 σ0 g' w σ':=by
 have h' : (e = .normal ∨ e = .ret) ∧ (outs fn.raw s.lim s.st s.env fn.results).bind (zlX s.lim s.st) = some (v,σ'):=by
  cases e <;> simp only [leave] at h
  case normal => exact ⟨.inl rfl,h⟩
  case ret => exact ⟨.inr rfl,h⟩
  all_goals cases h
 refine ⟨h'.1,A.fr.df,?_⟩
 have h:=h'.2
 rw [yb] at h
 obtain ⟨vs,h1,h2⟩:=h
 unfold zlX at h2
 rw [ya] at h2
 obtain ⟨σ2,h2,h3⟩:=h2
 injection h3 with h3 h4
 subst h3 h4
 obtain ⟨us,v0s,k1,k2,k3,k4⟩:=zut (P:=P) A.rel A.fr hr h1
 have hul:=zhx k2
 have hrun : (results gf a.tmps).run P w = .ok (if us.length = 1 then us.getD 0 undef else .tuple us.toArray) w:=by
  rw [zv8,Array.mapM_eq_mapM_toList]
  simp only [Sem.run_bind,Sem.run_map,k1]
  simp only [Result.andThen_ok,Sem.run_pure]
  congr 1
  by_cases h : us.length = 1
  ·match us,h with
   | [x],_ => simp
  ·simp [h]
 have hval : ∀ {g' : G},zz g' w σ2 vs us → zf g' w σ2 (zCn vs) (if us.length = 1 then us.getD 0 undef else .tuple us.toArray):=fun {g'} hv => by
  have hl:=zhx hv
  unfold zCn
  split
  ·simp only [zz] at hv
   obtain ⟨x,xs,rfl,q1,rfl⟩:=hv
   simpa using q1
  ·rename_i hne
   have : us.length ≠ 1:=fun h => by
    rw [hl] at h
    match vs,h with
    | [x],_ => exact hne x rfl
   rw [if_neg this]
   simp only [zf]
   exact ⟨_,rfl,by simpa using hv⟩
 refine ⟨_,hrun,?_⟩
 unfold zme at h2
 split at h2
 ·rename_i hle
  injection h2 with h2
  subst h2
  refine ⟨g,hval (zrO (by omega) fun j c u hc hu => ?_),A.rel,A.ext⟩
  obtain ⟨v0,q1,q2⟩:=k4 j c hc
  obtain ⟨u',q3,q4⟩:=zjQ k2 q1
  rw [hu] at q3
  injection q3 with q3
  subst q3
  exact zCb hle q2 q4
 ·split at h2
  ·rename_i hlt
   injection h2 with h2
   subst h2
   simp only [yd] at hlt
   refine ⟨g.drop s.lim w,hval (zrO (by omega) fun j c u hc hu => ?_),zvO A.rel hlt.2,zv1 A.ext hc hlim⟩
   obtain ⟨v0,q1,q2⟩:=k4 j c hc
   obtain ⟨u',q3,q4⟩:=zjQ k2 q1
   rw [hu] at q3
   injection q3 with q3
   subst q3
   exact zAQ A.rel q2 q4 (zzE hlt.1 hc)
  ·cases h2
theorem zlk {gf : Func} {fn : Fun} {args : List V} {us : List Value} (R0 : Rel g w σ) (hv : zz g w σ args us) (hnd : zjl κ = true) (hall : κ.all (fun t => decide (t < gf.ntmps)) = true) (hlen : κ.length = fn.nslots) (h1 : fn.np ≤ fn.nslots) (h2 : fn.np ≤ gf.ntmps) (hk : κ.take fn.np = yk fn.np) (hnp : args.length = fn.np) :
  At' (g.clean σ.length) w σ κ gf.ntmps (g.clean σ.length) w (enter fn args σ) { tmps:=us.toArray ++ yj (gf.ntmps - us.toArray.size) undef,defers:=[] }:=by
 have hul:=zhx hv
 refine ⟨Ext.refl _ _ _,zxH R0,⟨by simp; omega,by simp [enter]; omega,fun i t ht => ?_,fun d t h => by simp at h,fun d t h => by simp at h,zoM hnd,fun t ht => by simpa using List.all_eq_true.1 hall t ht,rfl⟩⟩
 by_cases hi : i < args.length
 ·have : t = i:=by
   have e1 : (κ.take fn.np)[i]? = some t:=by rw [ziy (by omega)]; exact ht
   rw [hk,List.getElem?_range (by omega)] at e1
   injection e1 with e1
   exact e1.symm
  subst this
  have e2 : (args ++ yh (fn.nslots - args.length) vun).getD t vun = args[t]:=by
   rw [ye,List.getElem?_append_left hi,yg hi]
   rfl
  show zf (g.clean σ.length) w σ ((args ++ yh (fn.nslots - args.length) vun).getD t vun) _
  rw [e2]
  obtain ⟨u,q1,q2⟩:=zjQ hv (yg hi)
  have e3 : (us.toArray ++ yj (gf.ntmps - us.toArray.size) undef).getD t undef = u:=by
   rw [Array.getD_eq_getD_getElem?,Array.getElem?_append_left (by simp; omega)]
   simp [q1]
  rw [e3]
  exact zgT (g:=g) (g':=g.clean σ.length) rfl rfl rfl _ _ q2
 ·have e2 : (args ++ yh (fn.nslots - args.length) vun).getD i vun = vun:=by
   rw [ye,List.getElem?_append_right (by omega),List.getElem?_replicate]
   split <;> rfl
  show zf (g.clean σ.length) w σ ((args ++ yh (fn.nslots - args.length) vun).getD i vun) _
  rw [e2]
  simp only [vun,zf,zw]
theorem zDk (hD : DrawOk P CD) (hT : zw3 P CD T) (n : Nat) : zgQ P (zfy T (zN T n)):=by
 induction n using Nat.strongRecOn with
 | _ n ih =>
   intro f args σ v σ' h
   unfold zfy at h
   split at h
   ·rename_i fn hfn
    split at h
    ·rename_i hnp
     obtain ⟨gf,κ,hgf,hname,hchk⟩:=(hT f).1 fn hfn
     unfold zvR at hchk
     simp only [yd,beq_iff_eq,decide_eq_true_eq] at hchk
     obtain ⟨⟨⟨⟨⟨⟨⟨h1,h2⟩,h3⟩,h4⟩,h5⟩,h6⟩,h7⟩,h8⟩:=hchk
     split at h1
     ·rename_i c hbody
      refine ⟨⟨gf,c,hgf,hname,hbody⟩,fun g w us R0 hv => ?_⟩
      rw [yb] at h
      obtain ⟨⟨e,s⟩,hex,hleave⟩:=h
      have hA:=zlk (gf:=gf) R0 hv h2 h3 h4 h5 h6 h7 hnp
      have hbase:=zdi T n _ _ _ _ hex
      have hcode:=(zoc (T:=T) (g0:=g.clean σ.length) (w0:=w) (σ0:=σ) (κ:=κ) (nt:=gf.ntmps) hD (zfC g σ.length) n ih).1 c fn.body _ e s h1 hex _ _ _ (Nat.le_refl _) hA
      refine calls_of_wp hgf hbody (wp_mono hcode fun x a' w' hx => ?_)
      obtain ⟨rfl,g',A'⟩:=hx
      obtain ⟨q1,q2,u,q3,g2,q4,q5,q6⟩:=zld (gf:=gf) (zfC g σ.length) (by rw [hbase.2]; exact Nat.le_add_right _ _) h8 hleave A'
      have hend : a'.defers = [] ∧ ∃ v1,(results gf a'.tmps).run P w' = .ok v1 w' ∧ ∃ u g',(Ending.returned v1) = .returned u ∧ zf g' w' σ' v u ∧ Rel g' w' σ' ∧ Ext g w σ g' w' σ' :=
       ⟨q2,u,q3,u,G.under g w g2,rfl,zgT (g:=g2) (g':=G.under g w g2) rfl rfl rfl _ _ q4,zpe q6 q5,zoD q6⟩
      rcases q1 with rfl | rfl
      ·exact hend
      ·exact hend
     ·cases h1
    ·cases h
   ·rename_i ext hext
    exact (hT f).2 ext hext args σ v σ' h
   ·cases h
theorem sound (hD : DrawOk P CD) (hT : zw3 P CD T) : zgQ P (call T):=fun f args σ v σ' h => by
 obtain ⟨n,hn⟩:=zsm h
 exact zDk hD hT n f args σ v σ' hn
end
end Go.A
