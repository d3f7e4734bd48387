/- A part of the proof of AliasTells. Conditions: none. -/
import Derived.Test.YtmkncmffaaninaaGreatLAE
set_option linter.all false
open List renaming getD_eq_getElem?_getD → ya,getElem?_eq_getElem → yc,getElem?_append_left → yd,range → yf,all_eq_true → yg,mem_of_getElem? → yk,getElem?_eq_none → yl,getElem?_set_ne → yr,mem_cons → yx,getElem?_map → yz,replicate → yA,filterMap_cons → yB,getElem?_range → yC,map_congr_left → yD,ext_getElem? → yE,nodup_range → yG,nodup_cons → yH
open Bool renaming and_eq_true → yb,or_eq_true → yj,not_eq_true' → yt
open Option renaming map_eq_some_iff → ye,bind_eq_some_iff → yi,bind_some → yo,map_some → yq
open Array renaming getElem?_eq_some_iff → yh,getElem?_eq_getElem → yn,replicate → yw
open Nat renaming le_refl → ym,lt_of_lt_of_le → yp,lt_or_ge → yu,lt_trichotomy → yv,add_assoc → yy,le_of_lt → yF
namespace Go.A
mutual
theorem exC : ∀ c : C,∃ n,∀ m,n ≤ m → c.lt m = true
 | .f _ => ⟨0,fun _ _ => by simp [C.lt]⟩
 | .ap t _ _ => ⟨t + 1,fun _ h => by simp [C.lt]; omega⟩
 | .ptr id _ _ _ => ⟨id + 1,fun _ h => by simp [C.lt]; omega⟩
 | .fp _ _ => ⟨0,fun _ _ => by simp [C.lt]⟩
 | .own id _ _ _ => ⟨id + 1,fun _ h => by simp [C.lt]; omega⟩
 | .map id => ⟨id + 1,fun _ h => by simp [C.lt]; omega⟩
 | .fn _ a b => by
   obtain ⟨n,d⟩:=zKp a;obtain ⟨m,e⟩:=zKp b;exact ⟨max n m,fun k g => by simp only [C.lt,yb]; exact ⟨d k (by omega),e k (by omega)⟩⟩
 | .un => ⟨0,fun _ _ => by simp [C.lt]⟩
theorem zKp : ∀ cs : List C,∃ n,∀ m,n ≤ m → C.lts m cs = true
 | [] => ⟨0,fun _ _ => rfl⟩
 | c :: cs => by
   obtain ⟨n,a⟩:=exC c;obtain ⟨m,b⟩:=zKp cs;exact ⟨max n m,fun k d => by simp only [C.lts,yb]; exact ⟨a k (by omega),b k (by omega)⟩⟩
end
mutual
theorem exV : ∀ c : V,∃ n,∀ m,n ≤ m → c.lt m = true
 | .one c => by
   obtain ⟨n,h⟩:=exC c;exact ⟨n,fun m hm => by simp only [V.lt]; exact h m hm⟩
 | .agg cs => by
   obtain ⟨n,h⟩:=zKp cs;exact ⟨n,fun m hm => by simp only [V.lt]; exact h m hm⟩
 | .tup vs => by
   obtain ⟨n,h⟩:=zLy vs;exact ⟨n,fun m hm => by simp only [V.lt]; exact h m hm⟩
theorem zLy : ∀ cs : List V,∃ n,∀ m,n ≤ m → V.lts m cs = true
 | [] => ⟨0,fun _ _ => rfl⟩
 | c :: cs => by
   obtain ⟨n,a⟩:=exV c;obtain ⟨m,b⟩:=zLy cs;exact ⟨max n m,fun k d => by simp only [V.lts,yb]; exact ⟨a k (by omega),b k (by omega)⟩⟩
end
theorem exX (f : X → V) : ∀ xs : List X,∃ n,∀ m,n ≤ m → ∀ x ∈ xs,(f x).lt m = true
 | [] => ⟨0,fun _ _ x h => by simp at h⟩
 | x :: xs => by
   obtain ⟨n,b⟩:=exV (f x);obtain ⟨m,c⟩:=exX f xs;refine ⟨max n m,fun k d y a => ?_⟩;rcases yx.1 a with rfl | a
   ·exact b k (by omega)
   ·exact c k (by omega) y a
section
variable {Cf : zaz} {r r' r1 : R} {d : D}
def R.at (r : R) (σ : zd) : R:={ r with st:=σ }
def zFF (c : Nat) (σ σ1 : zd) : Prop:=(c ≤ 2 → σ1 = σ) ∧ (c = 3 → σ1.length = σ.length ∧ ∀ n,SameRow n σ σ1 ∧ SameRow n σ1 σ) ∧ (c = 4 → ∃ os,σ1 = σ ++ os)
theorem zyJ {op : Op} (t : ∀ x ∈ opX op,r'.get x = r.get x) (a : r'.st = r.st) (h : zbM Cf r d op = some r1) :
  ∃ v σ1,r1 = (r.at σ1).put d v ∧ zbM Cf r' d op = some ((r'.at σ1).put d v) ∧ zFF (zbt op) r.st σ1:=by
 by_cases C : zbt op ≤ 2
 ·
  obtain ⟨n,D⟩:=exX r.get (opX op);obtain ⟨v,l,c⟩:=zo0 (n:=n) C t (D n (ym _)) (fun _ => by rw [a]; exact ⟨fun id H sz o _ u A => ⟨o,u,A⟩⟩) (fun _ => by rw [a]; exact ⟨fun id o _ u => u⟩) h;refine ⟨v,r.st,l,?_,fun _ => rfl,fun h => by omega,fun h => by omega⟩;rw [c,← a];rfl
 ·have e4 : ∀ {os : List Ob},zbt op = 4 → zFF (zbt op) r.st (r.st ++ os):=fun {os} q => ⟨fun h => by omega,fun h => by omega,fun _ => ⟨os,rfl⟩⟩
  have e5 : ∀ {σ1 : zd},zbt op = 5 → zFF (zbt op) r.st σ1:=fun {σ1} q => ⟨fun h => by omega,fun h => by omega,fun h => by omega⟩
  have anl' : ∀ {b : B} {sz : Nat},b ≠ .fz → anl r d sz b = some r1 → ∃ v os,r1 = (r.at (r.st ++ os)).put d v ∧ anl r' d sz b = some ((r'.at (r.st ++ os)).put d v):=fun {b sz} hb D => by
   cases b with
   | fz => exact absurd rfl hb
   | tk =>
     simp only [anl,Option.some.injEq] at D ⊢;exact ⟨_,_,D.symm,by simp only [R.alloc,R.at,a]⟩
   | rw =>
     simp only [anl,Option.some.injEq] at D ⊢;exact ⟨_,_,D.symm,by simp only [R.alloc,R.at,a]⟩
  cases op <;> simp only [zbM] at h ⊢ <;> simp only [opX,yx,List.not_mem_nil,or_false,forall_eq_or_imp,forall_eq] at t
  case st sz x v =>
   rw [t.1,t.2];rw [ye] at h;obtain ⟨K,h,rfl⟩:=h;unfold ast at h ⊢;split at h
   ·rename_i id H i off heq
    split at h
    ·rename_i N
     rw [if_pos N];unfold R.write at h ⊢;split at h
     ·rename_i J
      rw [if_pos J,a];rw [ye] at h;obtain ⟨L,l,rfl⟩:=h;rw [l];refine ⟨vun,r.st.set id L,rfl,by simp only [yq,R.setOb,R.at,a],fun h => by simp [zbt] at h,fun _ => ⟨by simp,fun n => ⟨⟨fun z w G o _ u A => ?_⟩,⟨fun z w G o _ u A => ?_⟩⟩⟩,fun h => by simp [zbt] at h⟩
      ·rw [yi] at l
       obtain ⟨o0,c,p⟩:=l
       by_cases e : z = id
       ·subst e
        rw [c] at u;injection u with u;subst u;unfold Ob.write at p;split at p
        ·split at p
         ·rw [ye] at p
          obtain ⟨M,_,rfl⟩:=p;exact ⟨_,zI c,by simpa [Ob.isRow,upd] using A⟩
         ·cases p
        ·cases p
       ·exact ⟨o,by rw [yr (Ne.symm e)]; exact u,A⟩
      ·rw [yi] at l
       obtain ⟨o0,c,p⟩:=l
       by_cases e : z = id
       ·subst e
        rw [zI c] at u;injection u with u;subst u;refine ⟨o0,c,?_⟩;unfold Ob.write at p;split at p
        ·split at p
         ·rw [ye] at p
          obtain ⟨M,_,rfl⟩:=p;simpa [Ob.isRow,upd] using A
         ·cases p
        ·cases p
       ·exact ⟨o,by rw [yr (Ne.symm e)] at u; exact u,A⟩
     ·cases h
    ·cases h
   ·cases h
  case al zero fresh =>
   injection h with h;exact ⟨_,_,h.symm,by simp only [aal,R.allocs,R.at,a],e4 rfl⟩
  case box sz x =>
   rw [t];split at h
   ·rename_i q
    injection h with h;exact ⟨_,_,h.symm,by rw [if_pos q]; simp only [R.alloc,R.at,a],e4 rfl⟩
   ·cases h
  case mks zero fresh n =>
   rw [t];unfold zI2 at h ⊢;split at h
   ·split at h
    ·rename_i q
     injection h with h;exact ⟨_,_,h.symm,by rw [if_pos q]; simp only [R.alloc,R.at,a],e4 rfl⟩
    ·cases h
   ·split at h
    ·rename_i q
     injection h with h;exact ⟨_,_,h.symm,by rw [if_pos q]; simp only [R.allocs,R.at,a],e4 rfl⟩
    ·cases h
   ·cases h
  case mkc sz n =>
   rw [t];unfold zJj at h ⊢;split at h
   ·split at h
    ·rename_i q
     injection h with h;exact ⟨_,_,h.symm,by rw [if_pos q]; simp only [R.alloc,R.at,a],e4 rfl⟩
    ·cases h
   ·cases h
  case mkm =>
   injection h with h;exact ⟨_,_,h.symm,by simp only [R.alloc,R.at,a],e4 rfl⟩
  case nl b sz =>
   cases b
   case fz => simp [zbt] at C
   case tk => obtain ⟨v,os,l,c⟩:=anl' (by simp) h; exact ⟨v,_,l,c,e4 rfl⟩
   case rw => obtain ⟨v,os,l,c⟩:=anl' (by simp) h; exact ⟨v,_,l,c,e4 rfl⟩
  case bsl b sz zero parts =>
   rw [znu (r:=r) (r':=r') t];rw [yi] at h;obtain ⟨es,l,c⟩:=h;rw [l];cases b
   case fz => simp [zbt] at C
   case tk =>
    simp only [zyU,ye] at c;obtain ⟨xs,c,rfl⟩:=c;exact ⟨_,_,rfl,by simp only [yo,zyU,c,yq,zDh,R.alloc,R.at,a],e4 rfl⟩
   case rw =>
    simp only [zyU,Option.some.injEq] at c;subst c;exact ⟨_,_,rfl,by simp only [yo,zyU,R.alloc,R.at,a],e4 rfl⟩
  case bld zero parts fresh =>
   rw [znP (r:=r) (r':=r') t,a];rw [ye] at h;obtain ⟨cs,l,rfl⟩:=h;rw [l];refine ⟨.agg cs,r.st ++ tokens fresh,rfl,by simp only [yq,zI4,R.allocs,R.at,a],e4 ?_⟩
   cases fresh with
   | nil => simp [zbt] at C
   | cons j js => rfl
  case cpy sz s x =>
   rw [t.1,t.2,a];rw [yi] at h;obtain ⟨ys,l,c⟩:=h;rw [l];simp only [yo];split at c
   ·rename_i y
    rw [if_pos y];unfold zKc at c ⊢;split at c
    ·split at c
     ·cases c
     ·rename_i J
      simp only [if_neg J];rw [yi] at c;obtain ⟨o,p,g⟩:=c;rw [a,p];simp only [yo]
      cases o with
      | tok _ _ => simp [zl4] at g
      | mp _ => simp [zl4] at g
      | cells w G es =>
        simp only [zl4] at g ⊢;split at g
        ·rename_i q
         injection g with g;exact ⟨_,_,g.symm,by rw [if_pos q]; simp only [R.setOb,R.at,a],e5 rfl⟩
        ·cases g
    ·cases c
   ·cases c
  case app sz s x =>
   rw [t.1,t.2,a];rw [yi] at h;obtain ⟨ys,l,c⟩:=h;rw [l];simp only [yo];split at c
   ·rename_i y
    rw [if_pos y];unfold zHs at c ⊢;split at c
    ·rw [yi] at c
     obtain ⟨o,p,g⟩:=c;rw [a,p];simp only [yo];unfold zpK at g ⊢;split at g
     ·rename_i q
      injection g with g;exact ⟨_,_,g.symm,by rw [if_pos q]; simp only [R.setOb,R.at,a],e5 rfl⟩
     ·cases g
    ·rw [yi] at c
     obtain ⟨o,p,g⟩:=c;rw [a,p];simp only [yo];unfold zvZ at g ⊢;split at g
     ·rename_i q
      injection g with g;exact ⟨_,_,g.symm,by rw [if_pos q]; simp only [R.setOb,R.at,a],e5 rfl⟩
     ·rename_i I
      split at g
      ·rename_i q
       injection g with g;exact ⟨_,_,g.symm,by rw [if_neg I,if_pos q]; simp only [R.at,← a],e5 rfl⟩
      ·cases g
    ·split at c
     ·rename_i q
      injection c with c;exact ⟨_,_,c.symm,by rw [if_pos q]; simp only [R.alloc,R.at,a],e5 rfl⟩
     ·cases c
    ·cases c
   ·cases c
  case mu m k v =>
   rw [t.1,t.2.1,t.2.2];rw [ye] at h;obtain ⟨K,h,rfl⟩:=h;unfold amu at h ⊢;split at h
   ·rw [ye] at h
    obtain ⟨es,l,rfl⟩:=h;rw [a,l];exact ⟨vun,_,rfl,by simp only [yq,zI9,R.setOb,R.at,a],e5 rfl⟩
   ·cases h
  case call m f args =>
   have e1:=t.1;have e2:=zjY (r:=r) (r':=r') (ys:=args) t.2;rw [e1,e2];unfold zqh at h ⊢;split at h
   ·cases m
    case cl => simp [zbt] at C
    case ck =>
     simp only at h ⊢;split at h
     ·cases h
     ·rename_i E
      rw [if_neg E,a];rw [ye] at h;obtain ⟨x,l,rfl⟩:=h;rw [l];exact ⟨_,_,rfl,by simp only [yq,zzw,R.at,a],e5 rfl⟩
    case op =>
     simp only at h ⊢;rw [a];rw [ye] at h;obtain ⟨x,l,rfl⟩:=h;rw [l];exact ⟨_,_,rfl,by simp only [yq,zyW,R.at],e5 rfl⟩
   ·cases h
  all_goals first
   | (simp [zbt] at C; done)
   | (cases h; done)
def zfJ (x : Oper) : List X:=opX x.op ++ (match x.guard with
 | some (y,_) => [y]
 | none => [])
theorem zg0 {x : Oper} {n : Nat} (f : zbt x.op ≤ 2) (e : ∀ y ∈ zfJ x,r'.get y = r.get y) (j : ∀ y ∈ zfJ x,(r.get y).lt n = true) (i : zbt x.op = 1 → SameRow n r.st r'.st) (k : zbt x.op = 2 → Same n r.st r'.st) (h : step Cf r x = some r1) :
  ∃ v,r1 = r.put x.dst v ∧ step Cf r' x = some (r'.put x.dst v):=by
 obtain ⟨d,op,g⟩:=x
 cases g with
 | none => exact zo0 f (fun y a => e y (by simp [zfJ,a])) (fun y a => j y (by simp [zfJ,a])) i k h
 | some p =>
   obtain ⟨y,b⟩:=p;simp only [step] at h ⊢;rw [e y (by simp [zfJ])];unfold zpW at h ⊢;split at h
   ·split at h
    ·rename_i c
     rw [if_pos c];exact zo0 f (fun y a => e y (by simp [zfJ,a])) (fun y a => j y (by simp [zfJ,a])) i k h
    ·rename_i c
     rw [if_neg c];injection h with h;exact ⟨.tup [],h.symm,rfl⟩
   ·injection h with h
    exact ⟨.tup [],h.symm,rfl⟩
   ·cases h
def zBV (c : Nat) (σ σ1 : zd) : Prop:=σ1 = σ ∨ zFF c σ σ1
theorem ztY {x : Oper} (k : ∀ y ∈ zfJ x,r'.get y = r.get y) (a : r'.st = r.st) (h : step Cf r x = some r1) :
  ∃ v σ1,r1 = (r.at σ1).put x.dst v ∧ step Cf r' x = some ((r'.at σ1).put x.dst v) ∧ zBV (zbt x.op) r.st σ1:=by
 obtain ⟨d,op,g⟩:=x
 cases g with
 | none =>
   obtain ⟨v,σ1,c,j,f⟩:=zyJ (fun y e => k y (by simp [zfJ,e])) a h;exact ⟨v,σ1,c,j,.inr f⟩
 | some p =>
   obtain ⟨y,b⟩:=p;simp only [step] at h ⊢;rw [k y (by simp [zfJ])];unfold zpW at h ⊢;split at h
   ·split at h
    ·rename_i i
     rw [if_pos i];obtain ⟨v,σ1,c,j,f⟩:=zyJ (fun y e => k y (by simp [zfJ,e])) a h;exact ⟨v,σ1,c,j,.inr f⟩
    ·rename_i i
     rw [if_neg i];injection h with h;exact ⟨.tup [],r.st,h.symm,by rw [← a]; rfl,.inl rfl⟩
   ·injection h with h
    exact ⟨.tup [],r.st,h.symm,by rw [← a]; rfl,.inl rfl⟩
   ·cases h
theorem zJs (r : R) (d : D) (v : V) : ∃ y,(r.put d v).rs = y :: r.rs:=by cases d <;> exact ⟨_,rfl⟩
theorem zHZ (r : R) (d : D) (v : V) : (r.put d v).env = match d with
 | .slot t => r.env.set t v
 | _ => r.env:=by cases d <;> rfl
end
end Go.A
namespace Go.A
def ztK (ms : List Nat) : List Nat → Nat → Nat
 | [],s => s
 | i :: es,s => ztK ms es (s ||| (2 ^ i ||| ms.getD i 0))
def zoh : List Go.Oper → List Nat → List Nat
 | [],acc => acc
 | o :: os,acc => zoh os (acc ++ [ztK acc (zz7 o) 0])
def zkA (gops : Array Go.Oper) (ms : List Nat) : Bool :=
 (yf gops.size).all fun j => (ms.getD j 0 == ztK ms (zaY gops j) 0) && (zaY gops j).all fun i => decide (i < j)
def bit (ms : List Nat) (j i : Nat) : Bool:=(ms.getD j 0).testBit i
theorem ztA {ms : List Nat} {i : Nat} : ∀ {es : List Nat} {s : Nat},(ztK ms es s).testBit i = true → s.testBit i = true ∨ ∃ e ∈ es,e = i ∨ bit ms e i = true
 | [],s,h => .inl h
 | e :: es,s,h => by
   simp only [ztK] at h;rcases ztA h with h | ⟨b,a,h⟩
   ·simp only [Nat.testBit_or,yj,Nat.testBit_two_pow,decide_eq_true_eq] at h
    rcases h with h | h | h
    ·exact .inl h
    ·exact .inr ⟨e,by simp,.inl h⟩
    ·exact .inr ⟨e,by simp,.inr h⟩
   ·exact .inr ⟨b,by simp [a],h⟩
theorem zmB {gops : Array Go.Oper} {ms : List Nat} (h : zkA gops ms = true) {j : Nat} (a : j < gops.size) : ms.getD j 0 = ztK ms (zaY gops j) 0 ∧ ∀ i ∈ zaY gops j,i < j:=by
 unfold zkA at h;have:=yg.1 h j (by simpa using a);simp only [yb,beq_iff_eq] at this;exact ⟨this.1,fun i b => by simpa using yg.1 this.2 i b⟩
theorem zfX {gops : Array Go.Oper} {ms : List Nat} (h : zkA gops ms = true) {i : Nat} : ∀ (j : Nat),j < gops.size → bit ms j i = true → Reach gops j i:=by
 intro j
 induction j using Nat.strongRecOn with
 | _ j ih =>
   intro d a;obtain ⟨c,b⟩:=zmB h d;unfold bit at a;rw [c] at a;rcases ztA a with a | ⟨e,he,a⟩
   ·simp at a
   ·rcases a with rfl | a
    ·exact .edge he
    ·exact .more he (ih e (b e he) (by have:=b e he; omega) a)
def free (c c' : Nat) : Bool:=c == 0 || c' == 0 || (decide (c ≤ 2) && decide (c' ≤ 2)) || (c == 1 && c' == 3) || (c == 3 && c' == 1) || (decide (c ≤ 2) && c' == 4) || (c == 4 && decide (c' ≤ 2))
def writes : Oper → Option Nat
 | ⟨.slot q,_,_⟩ => some q
 | _ => none
def zgz (q : Nat) (x : Oper) : Bool:=(zfJ x).any fun
 | .s q' => q' == q
 | _ => false
def zhK (x y : Oper) : Bool :=
 (match writes x with
  | some q => !zgz q y && (match writes y with
    | some q' => q' != q
    | none => true)
  | none => true) &&
 (match writes y with
  | some q => !zgz q x
  | none => true)
def cls (xs : List Oper) (j : Nat) : Nat:=match xs[j]? with
 | some x => zbt x.op
 | none => 0
def zA8 (loc : List (Option Tmp)) : X → Bool
 | .l d => match loc[d]? with
   | some (some t) => (loc.take d).all (· != some t)
   | _ => false
 | .s _ => true
 | .c v => v.lt 0
def zxO (ms : List Nat) (xs : List Oper) (i j : Nat) : Bool:=match xs[i]?,xs[j]? with
 | some x,some y => ((free (zbt x.op) (zbt y.op) && zhK x y) || bit ms j i) && (match writes x,writes y with
   | some q,some q' => q != q'
   | _,_ => true)
 | _,_ => false
def zzO (P : Program) (κ : List Tmp) (nt : Nat) (gops : Array Go.Oper) (xs : List Oper) (ms : List Nat) (j : Nat) : Bool:=match gops[j]?,xs[j]? with
 | some o,some x => okD κ nt o.dst x.dst && zg6 κ (zgo gops xs j) gops o.guard x.guard && zom P κ (zgo gops xs j) o x.dst x.op && (zfJ x).all (zA8 (zgo gops xs j)) && (yf j).all fun i => zxO ms xs i j
 | _,_ => false
def zj7 (P : Program) (κ : List Tmp) (nt : Nat) (gops : Array Go.Oper) (xs : List Oper) (ms : List Nat) (j : Nat) : Bool:=match gops[j]?,xs[j]? with
 | some o,some x => okD κ nt o.dst x.dst && zg6 κ (zjo gops xs j) gops o.guard x.guard && zom P κ (zjo gops xs j) o x.dst x.op && (yf j).all fun i => bit ms j i
 | _,_ => false
def zqr (ms : List Nat) : Nat → Nat
 | 0 => 0
 | n + 1 => if (yf n).all (fun i => bit ms n i) then zqr ms n else n + 1
def zIZ (gops : Array Go.Oper) (xs : List Oper) (p : Nat) : List Tmp:=(yf p).filterMap (lo gops xs)
def zui (P : Program) : List Tmp → Nat → Array Go.Oper → List Oper → Bool:=fun κ nt gops xs =>
 let ms:=zoh gops.toList []
 let p:=zqr ms gops.size
 zkA gops ms && xs.length == gops.size && decide (p ≤ gops.size) && zk2 (zIZ gops xs p) && (yf p).all (zzO P κ nt gops xs ms) && (yf gops.size).all fun j => decide (j < p) || zj7 P κ nt gops xs ms j
section
variable {P : Program} {κ : List Tmp} {nt : Nat} {gops : Array Go.Oper} {xs : List Oper} {ms : List Nat} {p : Nat}
theorem zmC : ∀ {l : List Nat},zk2 (l.filterMap (lo gops xs)) = true → l.Nodup → ∀ i ∈ l,∀ j ∈ l,∀ t,lo gops xs i = some t → lo gops xs j = some t → i = j
 | [],_,_,i,hi,_,_,_,_,_ => by simp at hi
 | x :: l,h,hn,i,hi,j,hj,t,h1,h2 => by
   rw [yH] at hn
   have b : zk2 (l.filterMap (lo gops xs)) = true:=by
    rw [yB] at h;split at h
    ·exact h
    ·simp only [zk2,yb] at h; exact h.2
   have a : ∀ k ∈ l,∀ t,lo gops xs x = some t → lo gops xs k = some t → False:=fun k g t f e => by
    rw [yB,f] at h;simp only [zk2,yb,yt] at h;have : t ∈ l.filterMap (lo gops xs):=List.mem_filterMap.2 ⟨k,g,e⟩;simp [this] at h
   rcases yx.1 hi with e1 | d
   ·rcases yx.1 hj with e2 | c
    ·rw [e1,e2]
    ·exact (a j c t (by rw [← e1]; exact h1) h2).elim
   ·rcases yx.1 hj with e2 | c
    ·exact (a i d t (by rw [← e2]; exact h2) h1).elim
    ·exact zmC b hn.2 i d j c t h1 h2
theorem znq {j : Nat} (h : zzO P κ nt gops xs ms j = true) {o : Go.Oper} {x : Oper} (d : gops[j]? = some o) (c : xs[j]? = some x) :
  okD κ nt o.dst x.dst = true ∧ zg6 κ (zgo gops xs j) gops o.guard x.guard = true ∧ zom P κ (zgo gops xs j) o x.dst x.op = true ∧ (∀ y ∈ zfJ x,zA8 (zgo gops xs j) y = true) ∧ ∀ i,i < j → zxO ms xs i j = true:=by
 unfold zzO at h;rw [d,c] at h;simp only [yb] at h;obtain ⟨⟨⟨⟨a,l⟩,f⟩,k⟩,e⟩:=h;exact ⟨a,l,f,fun y b => yg.1 k y b,fun i g => yg.1 e i (by simpa using g)⟩
structure Chk (P : Program) (κ : List Tmp) (nt : Nat) (gops : Array Go.Oper) (xs : List Oper) (ms : List Nat) (p : Nat) : Prop where
 masks : zkA gops ms = true
 len : xs.length = gops.size
 p_le : p ≤ gops.size
 dup : zk2 (zIZ gops xs p) = true
 pre : ∀ j,j < p → zzO P κ nt gops xs ms j = true
 tail : ∀ j,p ≤ j → j < gops.size → zj7 P κ nt gops xs ms j = true
theorem zKb (h : zui P κ nt gops xs = true) : ∃ ms p,Chk P κ nt gops xs ms p:=by
 unfold zui at h;simp only [yb,beq_iff_eq,decide_eq_true_eq] at h;obtain ⟨⟨⟨⟨⟨c,i⟩,f⟩,g⟩,e⟩,d⟩:=h;refine ⟨_,_,c,i,f,g,fun j b => yg.1 e j (by simpa using b),fun j b a => ?_⟩;have:=yg.1 d j (by simpa using a);simp only [yj,decide_eq_true_eq] at this;rcases this with h | h
 ·omega
 ·exact h
theorem Chk.plan (C : Chk P κ nt gops xs ms p) : Plan P κ nt gops xs p where
 len:=C.len
 p_le:=C.p_le
 back:=fun j o b i d => by
  have a : j < gops.size:=(yh.1 b).1;exact (zmB C.masks a).2 i (by unfold zaY; rw [b]; exact d)
 pre:=fun j o x a b f => (znq (C.pre j a) b f).1
 apart:=fun i j t d a e g => zmC C.dup yG i (by simpa using d) j (by simpa using a) t e g
 tail:=fun j o x a b f => by
  have c : j < gops.size:=(yh.1 b).1;have h:=C.tail j a c;unfold zj7 at h;rw [b,f] at h;simp only [yb] at h;obtain ⟨⟨⟨e,g⟩,l⟩,k⟩:=h;exact ⟨e,g,l,fun i d => zfX C.masks j c (yg.1 k i (by simpa using d))⟩
theorem Chk.pair (C : Chk P κ nt gops xs ms p) {i j : Nat} (c : i < j) (e : j < p) {x y : Oper} (l : xs[i]? = some x) (d : xs[j]? = some y) :
  ((free (zbt x.op) (zbt y.op) = true ∧ zhK x y = true) ∨ Reach gops j i) ∧ ∀ q,writes x = some q → writes y ≠ some q:=by
 have a : j < gops.size:=yp e C.p_le;have h:=(znq (C.pre j e) (yn a) d).2.2.2.2 i c;unfold zxO at h;rw [l,d] at h;simp only [yb,yj] at h;obtain ⟨k,f⟩:=h;refine ⟨k.imp id fun h => zfX C.masks j a h,fun q g b => ?_⟩;rw [g,b] at f;simp at f
variable {Cf : zaz} {rr : Nat → R}
def zbF (rr : Nat → R) (j : Nat) : V:=(rr (j + 1)).rs.headD vun
theorem zoG (a : ∀ i x,xs[i]? = some x → step Cf (rr i) x = some (rr (i + 1))) {j : Nat} {x : Oper} (c : xs[j]? = some x) :
  ∃ v σ1,rr (j + 1) = ((rr j).at σ1).put x.dst v ∧ zBV (zbt x.op) (rr j).st σ1:=by
 obtain ⟨v,σ1,b,_,d⟩:=ztY (r':=rr j) (fun _ _ => rfl) rfl (a j x c);exact ⟨v,σ1,b,d⟩
theorem zpN (a : ∀ i x,xs[i]? = some x → step Cf (rr i) x = some (rr (i + 1))) (b : (rr 0).rs = []) : ∀ j,j ≤ xs.length → (rr j).rs = (yf j).reverse.map (zbF rr)
 | 0,_ => by simpa using b
 | j + 1,hj => by
   have f:=zpN a b j (by omega);obtain ⟨v,σ1,c,_⟩:=zoG a (yc (by omega : j < xs.length));obtain ⟨y,d⟩:=zJs ((rr j).at σ1) xs[j].dst v;rw [List.range_succ,List.reverse_append];simp only [List.reverse_cons,List.reverse_nil,List.nil_append,List.map_append,List.map_cons,List.map_nil,List.singleton_append];have e : (rr (j + 1)).rs = y :: (rr j).rs:=(by rw [c]; exact d);have e2 : zbF rr j = y:=(by unfold zbF; rw [e]; rfl);rw [e,e2,f]
def wr (xs : List Oper) (p q : Nat) : Option Nat:=(yf p).find? fun k => match xs[k]? with
 | some x => writes x == some q
 | none => false
theorem zhO {q k : Nat} (h : wr xs p q = some k) : k < p ∧ ∃ x,xs[k]? = some x ∧ writes x = some q:=by
 unfold wr at h;have a:=List.find?_some h;have c:=List.mem_of_find?_eq_some h;refine ⟨by simpa using c,?_⟩;split at a
 ·rename_i x b; exact ⟨x,b,by simpa using a⟩
 ·cases a
structure ChkW (xs : List Oper) (p : Nat) : Prop where
 le : p ≤ xs.length
 ww : ∀ {i j : Nat},i < j → j < p → ∀ {x y : Oper},xs[i]? = some x → xs[j]? = some y → ∀ q,writes x = some q → writes y ≠ some q
theorem Chk.w (C : Chk P κ nt gops xs ms p) : ChkW xs p:=⟨by rw [C.len]; exact C.p_le,fun a c _ _ d b => (C.pair a c d b).2⟩
theorem zGT (C : ChkW xs p) {q k : Nat} {x : Oper} (d : k < p) (b : xs[k]? = some x) (hw : writes x = some q) : wr xs p q = some k:=by
 cases h : wr xs p q with
 | none =>
   unfold wr at h;rw [List.find?_eq_none] at h;have:=h k (by simpa using d);rw [b] at this;simp [hw] at this
 | some k' =>
   obtain ⟨f,g,e,c⟩:=zhO h;rcases yv k k' with a | rfl | a
   ·exact absurd c (C.ww a f b e q hw)
   ·rfl
   ·exact absurd hw (C.ww a d e b q c)
def zik (rr : Nat → R) (xs : List Oper) (p : Nat) (D : Nat → Bool) (q : Nat) : V:=match wr xs p q with
 | some k => if D k then (rr (k + 1)).env.getD q vun else (rr 0).env.getD q vun
 | none => (rr 0).env.getD q vun
def zeR (rr : Nat → R) (xs : List Oper) (p : Nat) (D : Nat → Bool) : List V:=(yf (rr 0).env.length).map (zik rr xs p D)
theorem zhP (C : ChkW xs p) (c : ∀ i x,xs[i]? = some x → step Cf (rr i) x = some (rr (i + 1))) : ∀ j,j ≤ p → (rr j).env.length = (rr 0).env.length ∧ ∀ q,(rr j).env.getD q vun = zik rr xs p (fun k => decide (k < j)) q
 | 0,_ => ⟨rfl,fun q => by
   unfold zik
   split <;> simp⟩
 | j + 1,hj => by
   obtain ⟨h,n⟩:=zhP C c j (by omega);have o : j < xs.length:=(by have:=C.le; omega);have w : xs[j]? = some xs[j]:=yc o;obtain ⟨v,σ1,A,_⟩:=zoG c w;have a:=zHZ ((rr j).at σ1) xs[j].dst v;rw [← A] at a;refine ⟨?_,fun q => ?_⟩
   ·rw [a]
    split
    ·simp [R.at,h]
    ·exact h
   ·by_cases hw : writes xs[j] = some q
    ·have u:=zGT C (by omega : j < p) w hw
     unfold zik;rw [u];simp
    ·have b : (rr (j + 1)).env.getD q vun = (rr j).env.getD q vun:=by
      rw [a];split
      ·rename_i t s
       have l : t ≠ q:=fun e => hw (by
        subst e
        have : xs[j] = ⟨.slot t,xs[j].op,xs[j].guard⟩:=by
         cases r : xs[j] with
         | mk d op g => rw [r] at s; simp only at s; rw [s]
        rw [this]; rfl)
       simp only [ya,yr l,R.at]
      ·rfl
     rw [b,n];unfold zik;split
     ·rename_i k z
      obtain ⟨B,D,m,y⟩:=zhO z
      have l : k ≠ j:=fun e => by subst e; rw [w] at m; injection m with m; rw [← m] at y; exact hw y
      by_cases f : k < j
      ·simp only [decide_eq_true_eq,if_pos f,if_pos (by omega : k < j + 1)]
      ·simp only [decide_eq_true_eq,if_neg f,if_neg (by omega : ¬ k < j + 1)]
     ·rfl
theorem zid {D : Nat → Bool} {q : Nat} (C : ChkW xs p) (b : ∀ i x,xs[i]? = some x → step Cf (rr i) x = some (rr (i + 1))) : (zeR rr xs p D).getD q vun = zik rr xs p D q:=by
 unfold zeR
 by_cases a : q < (rr 0).env.length
 ·simp [ya,a]
 ·have e0 : (rr 0).env.getD q vun = vun:=by simp [ya,a]
  have e1 : ((yf (rr 0).env.length).map (zik rr xs p D)).getD q vun = vun:=by simp [ya,a]
  rw [e1];unfold zik;split
  ·rename_i k d
   obtain ⟨e,_⟩:=zhO d;have c:=(zhP C b (k + 1) (by omega)).1;split
   ·simp [ya,c,a]
   ·exact e0.symm
  ·exact e0.symm
def zfE (xs : List Oper) (D : Nat → Bool) : Nat → Nat
 | 0 => 0
 | n + 1 => if D n && decide (3 ≤ cls xs n) then n + 1 else zfE xs D n
def zsk (rr : Nat → R) (xs : List Oper) (p : Nat) (D : Nat → Bool) : zd:=(rr (zfE xs D p)).st
theorem zqw (D : Nat → Bool) : ∀ n,zfE xs D n ≤ n
 | 0 => ym _
 | n + 1 => by
   have:=zqw D n;simp only [zfE];split <;> omega
theorem zqx (D : Nat → Bool) : ∀ n,zfE xs D n = 0 ∨ ∃ k,zfE xs D n = k + 1 ∧ D k = true ∧ 3 ≤ cls xs k
 | 0 => .inl rfl
 | n + 1 => by
   simp only [zfE];split
   ·rename_i h
    simp only [yb,decide_eq_true_eq] at h;exact .inr ⟨n,rfl,h⟩
   ·exact zqx D n
theorem ziC (D : Nat → Bool) : ∀ n k,zfE xs D n ≤ k → k < n → ¬ (D k = true ∧ 3 ≤ cls xs k)
 | 0,k,_,h => by omega
 | n + 1,k,h1,h2 => by
   simp only [zfE] at h1;split at h1
   ·omega
   ·rename_i h
    rcases yu k n with c | c
    ·exact ziC D n k h1 c
    ·have : k = n:=by omega
     subst this;intro ⟨a,b⟩;exact h (by simp [a,b])
end
theorem zrg {g : G} {w : World} {σ : zd} : ∀ (v : V) (u : Value),zh g w σ v u → v.lt σ.length = true
 | .one c,u,h => by
   simp only [zh] at h;simp only [V.lt];exact zpq c u h
 | .agg cs,u,h => by
   simp only [zh] at h;obtain ⟨us,_,a⟩:=h;simp only [V.lt];exact zqq cs _ a
 | .tup vs,u,h => by
   simp only [zh] at h;obtain ⟨us,_,a⟩:=h;simp only [V.lt];exact go vs _ a
 where go : ∀ (vs : List V) (us : List Value),zW g w σ vs us → V.lts σ.length vs = true
 | [],_,_ => rfl
 | v :: vs,us,h => by
   simp only [zW] at h;obtain ⟨x,xs,_,b,a⟩:=h;simp only [V.lts,yb];exact ⟨zrg v x b,go vs xs a⟩
mutual
theorem C.lt_mono {n m : Nat} (h : n ≤ m) : ∀ c : C,c.lt n = true → c.lt m = true
 | .f _,_ => by simp [C.lt]
 | .ap t _ _,hc => by simp [C.lt] at hc ⊢; omega
 | .ptr id _ _ _,hc => by simp [C.lt] at hc ⊢; omega
 | .fp _ _,_ => by simp [C.lt]
 | .own id _ _ _,hc => by simp [C.lt] at hc ⊢; omega
 | .map id,hc => by simp [C.lt] at hc ⊢; omega
 | .fn _ a b,hc => by
   simp only [C.lt,yb] at hc ⊢;exact ⟨C.lts_mono h a hc.1,C.lts_mono h b hc.2⟩
 | .un,_ => by simp [C.lt]
theorem C.lts_mono {n m : Nat} (h : n ≤ m) : ∀ cs : List C,C.lts n cs = true → C.lts m cs = true
 | [],_ => rfl
 | c :: cs,hc => by
   simp only [C.lts,yb] at hc ⊢;exact ⟨C.lt_mono h c hc.1,C.lts_mono h cs hc.2⟩
end
mutual
theorem V.lt_mono {n m : Nat} (h : n ≤ m) : ∀ c : V,c.lt n = true → c.lt m = true
 | .one c,hc => by
   simp only [V.lt] at hc ⊢;exact C.lt_mono h c hc
 | .agg cs,hc => by
   simp only [V.lt] at hc ⊢;exact C.lts_mono h cs hc
 | .tup vs,hc => by
   simp only [V.lt] at hc ⊢;exact V.lts_mono h vs hc
theorem V.lts_mono {n m : Nat} (h : n ≤ m) : ∀ cs : List V,V.lts n cs = true → V.lts m cs = true
 | [],_ => rfl
 | c :: cs,hc => by
   simp only [V.lts,yb] at hc ⊢;exact ⟨V.lt_mono h c hc.1,V.lts_mono h cs hc.2⟩
end
theorem zud {c a : Nat} (h : free c a = true) : c ≤ 2 ∨ a ≤ 2:=by
 unfold free at h;simp only [yj,yb,beq_iff_eq,decide_eq_true_eq] at h;omega
theorem zzp {c : Nat} (h : free 2 c = true ∨ free c 2 = true) : c ≤ 2 ∨ c = 4:=by
 unfold free at h;simp only [yj,yb,beq_iff_eq,decide_eq_true_eq] at h;omega
theorem zzd {c : Nat} (h : free 1 c = true ∨ free c 1 = true) : c ≤ 4:=by
 unfold free at h;simp only [yj,yb,beq_iff_eq,decide_eq_true_eq] at h;omega
section
variable {P : Program} {κ : List Tmp} {nt : Nat} {gops : Array Go.Oper} {xs : List Oper} {ms : List Nat} {p b l : Nat} {Cf : zaz} {rr : Nat → R}
theorem zCQ (a : ∀ i x,xs[i]? = some x → step Cf (rr i) x = some (rr (i + 1))) {j : Nat} {x : Oper} (c : xs[j]? = some x) : zBV (zbt x.op) (rr j).st (rr (j + 1)).st:=by
 obtain ⟨v,σ1,b,d⟩:=zoG a c;rw [b,zfW];exact d
theorem zja {j : Nat} {x : Oper} (a : xs[j]? = some x) : cls xs j = zbt x.op:=by unfold cls; rw [a]
theorem zqp (b : ∀ i x,xs[i]? = some x → step Cf (rr i) x = some (rr (i + 1))) {a : Nat} : ∀ n,a + n ≤ xs.length → (∀ k,a ≤ k → k < a + n → ¬ 3 ≤ cls xs k) → (rr (a + n)).st = (rr a).st
 | 0,_,_ => rfl
 | n + 1,hn,h => by
   have d:=zqp b n (by omega) fun k f j => h k f (by omega);have c : xs[a + n]? = some (xs[a + n]'(by omega)):=yc (by omega);have g:=h (a + n) (by omega) (by omega);rw [zja c] at g;rcases zCQ b c with e | e
   ·rw [← yy,e,d]
   ·rw [← yy,e.1 (by omega),d]
theorem zob (c : ∀ i x,xs[i]? = some x → step Cf (rr i) x = some (rr (i + 1))) {a : Nat} : ∀ n,a + n ≤ xs.length → (∀ k,a ≤ k → k < a + n → cls xs k ≤ 2 ∨ cls xs k = 4) → ∃ os,(rr (a + n)).st = (rr a).st ++ os
 | 0,_,_ => ⟨[],by simp⟩
 | n + 1,hn,h => by
   obtain ⟨os,d⟩:=zob c n (by omega) fun k j m => h k j (by omega);have g : xs[a + n]? = some (xs[a + n]'(by omega)):=yc (by omega);have b:=h (a + n) (by omega) (by omega);rw [zja g] at b;rw [← yy];rcases zCQ c g with e | e
   ·exact ⟨os,by rw [e,d]⟩
   ·rcases b with b | b
    ·exact ⟨os,by rw [e.1 b,d]⟩
    ·obtain ⟨f,l⟩:=e.2.2 b
     exact ⟨os ++ f,by rw [l,d,List.append_assoc]⟩
theorem zoL (j : ∀ i x,xs[i]? = some x → step Cf (rr i) x = some (rr (i + 1))) {a : Nat} : ∀ n,a + n ≤ xs.length → (∀ k,a ≤ k → k < a + n → cls xs k ≤ 4) →
  (rr a).st.length ≤ (rr (a + n)).st.length ∧ (∀ q,SameRow q (rr a).st (rr (a + n)).st) ∧ ∀ q,q ≤ (rr a).st.length → SameRow q (rr (a + n)).st (rr a).st
 | 0,_,_ => ⟨ym _,fun q => ⟨fun id b sz o _ c d => ⟨o,c,d⟩⟩,fun q _ => ⟨fun id b sz o _ c d => ⟨o,c,d⟩⟩⟩
 | n + 1,hn,h => by
   obtain ⟨u,r,m⟩:=zoL j n (by omega) fun k A B => h k A (by omega);have t : xs[a + n]? = some (xs[a + n]'(by omega)):=yc (by omega);have v:=h (a + n) (by omega) (by omega);rw [zja t] at v;rw [← yy]
   have key : (rr (a + n)).st.length ≤ (rr (a + n + 1)).st.length ∧ (∀ q,SameRow q (rr (a + n)).st (rr (a + n + 1)).st) ∧ ∀ q,q ≤ (rr (a + n)).st.length → SameRow q (rr (a + n + 1)).st (rr (a + n)).st:=by
    have same : (rr (a + n + 1)).st = (rr (a + n)).st → (rr (a + n)).st.length ≤ (rr (a + n + 1)).st.length ∧ (∀ q,SameRow q (rr (a + n)).st (rr (a + n + 1)).st) ∧ ∀ q,q ≤ (rr (a + n)).st.length → SameRow q (rr (a + n + 1)).st (rr (a + n)).st:=fun e => by
     rw [e];exact ⟨ym _,fun q => ⟨fun id b sz o _ c d => ⟨o,c,d⟩⟩,fun q _ => ⟨fun id b sz o _ c d => ⟨o,c,d⟩⟩⟩
    rcases zCQ j t with e | e
    ·exact same e
    ·rcases yu (zbt (xs[a + n]'(by omega)).op) 3 with y | y
     ·exact same (e.1 (by omega))
     ·rcases yu (zbt (xs[a + n]'(by omega)).op) 4 with z | z
      ·obtain ⟨l,g⟩:=e.2.1 (by omega)
       exact ⟨by omega,fun q => (g q).1,fun q _ => (g q).2⟩
      ·obtain ⟨os,w⟩:=e.2.2 (by omega)
       rw [w];refine ⟨by simp,fun q => ⟨fun id b sz o _ c d => ⟨o,by rw [yd (zb c)]; exact c,d⟩⟩,fun q s => ⟨fun id b sz o f c d => ⟨o,?_,d⟩⟩⟩;rw [yd (by omega)] at c;exact c
   refine ⟨by omega,fun q => ⟨fun id b sz o f c d => ?_⟩,fun q s => ⟨fun id b sz o f c d => ?_⟩⟩
   ·obtain ⟨p,l,g⟩:=(r q).row id b sz o f c d
    exact (key.2.1 q).row id b sz p f l g
   ·obtain ⟨p,l,g⟩:=(key.2.2 q (by omega)).row id b sz o f c d
    exact (m q s).row id b sz p f l g
theorem zrD {D : Nat → Bool} {j : Nat} (a : ¬ 3 ≤ cls xs j) : ∀ n,zfE xs (zbN D j) n = zfE xs D n
 | 0 => rfl
 | n + 1 => by
   simp only [zfE,zrD a n]
   by_cases h : n = j
   ·subst h
    simp [a]
   ·simp [zbN,h]
theorem zvu {D : Nat → Bool} {j : Nat} (c : 3 ≤ cls xs j) : ∀ n,j < n → (∀ k,j < k → k < n → ¬ (D k = true ∧ 3 ≤ cls xs k)) → zfE xs (zbN D j) n = j + 1
 | 0,h,_ => by omega
 | n + 1,h,hno => by
   simp only [zfE]
   by_cases e : n = j
   ·subst e
    simp [zbN,c]
   ·have b:=hno n (by omega) (by omega)
    have hu : zbN D j n = D n:=(by simp [zbN,e]);rw [hu,if_neg (by simpa using fun a => by simpa [a] using b)];exact zvu c n (by omega) fun k d f => hno k d (by omega)
theorem zsi (C : ChkW xs p) (f : ∀ i x,xs[i]? = some x → step Cf (rr i) x = some (rr (i + 1))) {D : Nat → Bool} {j : Nat} {x : Oper} (u : j < p) (m : xs[j]? = some x) {v : V} {σ1 : zd} (o : rr (j + 1) = ((rr j).at σ1).put x.dst v) :
  zeR rr xs p (zbN D j) = match x.dst with
   | .slot t => (zeR rr xs p D).set t v
   | _ => zeR rr xs p D:=by
 have a : ∀ q,writes x ≠ some q → zik rr xs p (zbN D j) q = zik rr xs p D q:=fun q c => by
  unfold zik;split
  ·rename_i k n
   obtain ⟨_,y,b,r⟩:=zhO n
   have g : k ≠ j:=fun e => by subst e; rw [m] at b; injection b with b; subst b; exact c r
   have : zbN D j k = D k:=(by simp [zbN,g]);rw [this]
  ·rfl
 obtain ⟨d,op,s⟩:=x
 cases d with
 | slot t =>
   have hw : writes ⟨.slot t,op,s⟩ = some t:=rfl;have h:=zGT C u m hw;refine yE fun q => ?_;rw [List.getElem?_set]
   by_cases c : q < (rr 0).env.length
   ·by_cases e : t = q
    ·subst e
     rw [if_pos rfl,if_pos (by simpa [zeR] using c)];unfold zeR;rw [yz,yC c];simp only [yq];unfold zik;rw [h];have l : zbN D j j = true:=(by simp [zbN]);simp only [l,if_true];rw [o];have w:=(zhP C f j (by omega)).1;simp [R.put,R.at,ya,w,c]
    ·rw [if_neg e]
     unfold zeR;rw [yz,yz,yC c];simp only [yq];rw [a q (by rw [hw]; simpa using e)]
   ·have l : (zeR rr xs p (zbN D j))[q]? = none:=yl (by simp [zeR]; omega)
    have b : (zeR rr xs p D)[q]? = none:=yl (by simp [zeR]; omega);rw [l];split
    ·rw [if_neg (by simp [zeR]; omega)]
    ·exact b.symm
 | no => exact yD fun q _ => a q (by simp [writes])
 | loc => exact yD fun q _ => a q (by simp [writes])
theorem zGy (S : zhU P Cf) (C : Chk P κ nt gops xs ms p) (m : ∀ i x,xs[i]? = some x → step Cf (rr i) x = some (rr (i + 1))) (h0 : (rr 0).rs = []) : Local P κ nt gops xs (zbF rr) (zeR rr xs p) (zsk rr xs p) p b l:=by
 intro j o x D g w a next Q X ho E aE hE J aU R0 F k
 have aV : p ≤ xs.length:=by rw [C.len]; exact C.p_le
 obtain ⟨c1,c2,c3,c4,_⟩:=znq (C.pre j X) ho E;have hA : ∀ i,Reach gops j i → D i = true:=fun i h => zbw J h hE
 have hB : ∀ i,Reach gops i j → D i = false:=fun i h => by
  cases hi : D i with
  | false => rfl
  | true =>
    have:=zbw J h (J i hi);rw [aE] at this;cases this
 let r' : R:=⟨(yf j).reverse.map (zbF rr),zeR rr xs p D,zsk rr xs p D,b,l⟩
 have aO:=zpN m h0 j (by omega);obtain ⟨_,aK⟩:=zhP C.w m j (yF X)
 have M : ∀ y ∈ zfJ x,r'.get y = (rr j).get y:=fun y hy => by
  cases y with
  | l d => show ((yf j).reverse.map (zbF rr)).getD d vun = (rr j).rs.getD d vun; rw [aO]
  | c v => rfl
  | s q =>
    show (zeR rr xs p D).getD q vun = (rr j).env.getD q vun
    rw [zid C.w m,aK];unfold zik;split
    ·rename_i i hi
     obtain ⟨aQ,x',aL,hw⟩:=zhO hi
     have K : zgz q x = true:=by
      unfold zgz;rw [List.any_eq_true];exact ⟨_,hy,by simp⟩
     have : D i = decide (i < j):=by
      rcases yv i j with G | rfl | G
      ·rcases (C.pair G X aL E).1 with h | h
       ·exfalso
        have:=h.2;unfold zhK at this;rw [hw] at this;simp [K] at this
       ·rw [hA i h]; simp [G]
      ·rw [aE]; simp
      ·rcases (C.pair G aQ E aL).1 with h | h
       ·exfalso
        have:=h.2;unfold zhK at this;rw [hw] at this;simp [K] at this
       ·rw [hB i h]; simp; omega
     simp only [this]
    ·rfl
 have G : ∀ y ∈ zfJ x,((rr j).get y).lt (zsk rr xs p D).length = true:=fun y hy => by
  rw [← M y hy];have hu:=c4 y hy
  cases y with
  | l d =>
    simp only [zA8] at hu;split at hu
    ·rename_i t ht
     exact zrg _ _ (F.lc d t ht hu)
    ·cases hu
  | s q =>
    by_cases hq : q < κ.length
    ·exact zrg _ _ (F.env q _ (yc hq))
    ·have hl:=F.len
     have : r'.get (.s q) = vun:=by
      show (zeR rr xs p D).getD q vun = vun
      rw [ya,yl (by simp only at hl; omega)];rfl
     rw [this];rfl
  | c v => exact V.lt_mono (Nat.zero_le _) v hu
 have finish : ∀ {v : V} {σ1 : zd},rr (j + 1) = ((rr j).at σ1).put x.dst v → zsk rr xs p (zbN D j) = σ1 → (r'.at σ1).put x.dst v = ⟨zbF rr j :: (yf j).reverse.map (zbF rr),zeR rr xs p (zbN D j),zsk rr xs p (zbN D j),b,l⟩:=fun {v σ1} z B => by
  have he:=zsi C.w m (D:=D) X E z;have N : zbF rr j = (((rr j).at σ1).put x.dst v).rs.headD vun:=by unfold zbF; rw [z]
  rw [he,B,N];cases x.dst <;> rfl
 by_cases hc : zbt x.op ≤ 2
 ·
  have W : (zbt x.op = 1 → SameRow (zsk rr xs p D).length (rr j).st r'.st) ∧ (zbt x.op = 2 → Same (zsk rr xs p D).length (rr j).st r'.st):=by
   show (zbt x.op = 1 → SameRow (zsk rr xs p D).length (rr j).st (zsk rr xs p D)) ∧ (zbt x.op = 2 → Same (zsk rr xs p D).length (rr j).st (zsk rr xs p D))
   unfold zsk;have aP:=zqw (xs:=xs) D p;rcases yu j (zfE xs D p) with hm | hm
   ·
    rcases zqx (xs:=xs) D p with h | ⟨e,he,I,aC⟩
    ·omega
    ·have f : ∀ i,j ≤ i → i < zfE xs D p → cls xs i ≤ 2 ∨ (free (zbt x.op) (cls xs i) = true):=fun i z B => by
      rcases yu (cls xs i) 3 with h | h
      ·exact .inl (by omega)
      ·have aT : j ≠ i:=fun e' => by subst e'; rw [zja E] at h; omega
       have A : xs[i]? = some (xs[i]'(by omega)):=yc (by omega)
       have aN : D i = true:=by
        rcases yu i e with aH | aH
        ·have L : xs[e]? = some (xs[e]'(by omega)):=yc (by omega)
         rcases (C.pair aH (by omega) A L).1 with O | U
         ·have:=zud O.1
          rw [zja A] at h;rw [zja L] at aC;omega
         ·exact zbw J U (J e I)
        ·have : i = e:=by omega
         rw [this]; exact I
       rcases (C.pair (by omega : j < i) (by omega) E A).1 with O | U
       ·exact .inr (by rw [zja A]; exact O.1)
       ·have:=hB i U
        rw [aN] at this;cases this
     obtain ⟨n,Y⟩ : ∃ n,zfE xs D p = j + n:=⟨zfE xs D p - j,by omega⟩;rw [Y];refine ⟨fun Z => (zoL m n (by omega) fun i z B => ?_).2.1 _,fun aF => ?_⟩
     ·rcases f i z (by omega) with h | h
      ·omega
      ·exact zzd (.inl (by rw [← Z]; exact h))
     ·obtain ⟨os,aA⟩:=zob m (a:=j) n (by omega) fun i z B => by
       rcases f i z (by omega) with h | h
       ·exact .inl h
       ·exact zzp (.inl (by rw [← aF]; exact h))
      rw [aA];exact ⟨fun id o _ ho => by rw [yd (zb ho)]; exact ho⟩
   ·
    have f : ∀ i,zfE xs D p ≤ i → i < j → cls xs i ≤ 2 ∨ free (cls xs i) (zbt x.op) = true:=fun i z B => by
     rcases yu (cls xs i) 3 with h | h
     ·exact .inl (by omega)
     ·have A : xs[i]? = some (xs[i]'(by omega)):=yc (by omega)
      have aD:=ziC (xs:=xs) D p i z (by omega);rcases (C.pair B X A E).1 with O | U
      ·exact .inr (by rw [zja A]; exact O.1)
      ·exact absurd ⟨hA i U,h⟩ aD
    obtain ⟨n,Y⟩ : ∃ n,j = zfE xs D p + n:=⟨j - zfE xs D p,by omega⟩;have e1 : (rr j).st = (rr (zfE xs D p + n)).st:=(by rw [← Y]);rw [e1];refine ⟨fun Z => (zoL m n (by omega) fun i z B => ?_).2.2 _ (ym _),fun aF => ?_⟩
    ·rcases f i z (by omega) with h | h
     ·omega
     ·exact zzd (.inr (by rw [← Z]; exact h))
    ·obtain ⟨os,aA⟩:=zob m (a:=zfE xs D p) n (by omega) fun i z B => by
      rcases f i z (by omega) with h | h
      ·exact .inl h
      ·exact zzp (.inr (by rw [← aF]; exact h))
     rw [aA];exact ⟨fun id o aR ho => by rw [yd aR] at ho; exact ho⟩
  obtain ⟨v,z,B⟩:=zg0 (r':=r') hc M G W.1 W.2 (m j x E);have hq : ¬ 3 ≤ cls xs j:=by rw [zja E]; omega
  have aG : zsk rr xs p (zbN D j) = zsk rr xs p D:=by unfold zsk; rw [zrD hq]
  have aM : r'.put x.dst v = ⟨zbF rr j :: (yf j).reverse.map (zbF rr),zeR rr xs p (zbN D j),zsk rr xs p (zbN D j),b,l⟩:=by
   have he:=zsi C.w m (D:=D) (σ1:=(rr j).st) X E (by rw [z]; rfl);have N : zbF rr j = ((rr j).put x.dst v).rs.headD vun:=(by unfold zbF; rw [z]);rw [he,aG,N];cases x.dst <;> rfl
  rw [aM] at B;exact zek (r:=r') S R0 F c1 c2 c3 B (fun g' w' u H R1 _ F1 => k g' w' u H R1 F1) (fun _ h => h)
 ·
  have aI : 3 ≤ cls xs j:=by rw [zja E]; omega
  have aP:=zqw (xs:=xs) D p
  have aS : zfE xs D p ≤ j:=by
   rcases zqx (xs:=xs) D p with h | ⟨e,he,I,aC⟩
   ·omega
   ·rcases yv e j with h | h | h
    ·omega
    ·rw [h,aE] at I; cases I
    ·have L : xs[e]? = some (xs[e]'(by omega)):=yc (by omega)
     rcases (C.pair h (by omega) E L).1 with O | U
     ·have:=zud O.1
      rw [zja L] at aC;omega
     ·have:=hB e U
      rw [I] at this;cases this
  have aD : ∀ i,zfE xs D p ≤ i → i < j → ¬ 3 ≤ cls xs i:=fun i z B h => by
   have A : xs[i]? = some (xs[i]'(by omega)):=yc (by omega);have Y:=ziC (xs:=xs) D p i z (by omega);rcases (C.pair B X A E).1 with O | U
   ·have:=zud O.1
    rw [zja A] at h;omega
   ·exact Y ⟨hA i U,h⟩
  have W : r'.st = (rr j).st:=by
   show (rr (zfE xs D p)).st = (rr j).st
   obtain ⟨n,Y⟩ : ∃ n,j = zfE xs D p + n:=⟨j - zfE xs D p,by omega⟩;have:=zqp m (a:=zfE xs D p) n (by omega) fun i z B => aD i z (by omega);rw [← Y] at this;exact this.symm
  obtain ⟨v,σ1,z,B,_⟩:=ztY (r':=r') M W (m j x E)
  have aB : zfE xs (zbN D j) p = j + 1:=zvu aI p X fun i h3 h4 h5 => by
   have:=ziC (xs:=xs) D p i (by omega) h4;exact this h5
  have aJ : zsk rr xs p (zbN D j) = σ1:=by
   unfold zsk;rw [aB,z,zfW];rfl
  rw [finish z aJ] at B;exact zek (r:=r') S R0 F c1 c2 c3 B (fun g' w' u H R1 _ F1 => k g' w' u H R1 F1) (fun _ h => h)
theorem zH4 (hm : P.follows .mixedOrders = true) (Cf : zaz) (S : zhU P Cf) (κ : List Tmp) (nt id : Nat) (gops : Array Go.Oper) (xs : List Oper) (x : zui P κ nt gops xs = true) (r r1 : R) (E : r.rs = []) (m : steps Cf xs r = some r1) : zEA P κ nt id gops r r1:=by
 intro g w a Q U F y;obtain ⟨ms,p,C⟩:=zKb x;obtain ⟨rr,z,k2,d⟩:=znT xs r r1 m;have G : (rr 0).rs = []:=by rw [z]; exact E
 have B : p ≤ xs.length:=by rw [C.len]; exact C.p_le
 refine wp_region_any hm ?_;obtain ⟨K,D2⟩:=drawn U 1
 have c : ∀ i,Dof (yw gops.size false) i = false:=fun i => by
  unfold Dof;rw [Array.getD_eq_getD_getElem?,Array.getElem?_replicate];split <;> rfl
 have f : zsk rr xs p (Dof (yw gops.size false)) = r.st:=by
  unfold zsk;rcases zqx (xs:=xs) (Dof (yw gops.size false)) p with h | ⟨e,_,h,_⟩
  ·rw [h,z]
  ·rw [c] at h; cases h
 have o : ∀ q,(zeR rr xs p (Dof (yw gops.size false))).getD q vun = r.env.getD q vun:=fun q => by
  rw [zid C.w d];unfold zik;split <;> simp [c,z]
 have s : ∀ g' w' A loc,Ext g w r.st g' w' (rr gops.size).st → Rel g' w' (rr gops.size).st → Fr κ loc nt g' w' (rr gops.size) A → Q .normal A w':=fun g' w' A loc H I J => by
  rw [← C.len,k2] at H I J;exact y g' w' A loc H I J
 refine zxo (b:=0) (l:=0) (v:=zbF rr) (envD:=zeR rr xs p) (σD:=zsk rr xs p) (g0:=g) (w0:=w) (σ0:=r.st) (rr:=rr) S C.plan (zGy S C d G) d (zpN d G p B) (fun D => by simp [zeR,z,F.len]) F.nd F.bd (fun D u => ⟨?_,?_⟩) s gops.size (yw gops.size false) g (w.drewN 1) a (by simp) (fun i _ => c i) (fun j L => by rw [c] at L; cases L) ?_ ⟨?_,?_,F.size,F.df,fun i t Y => ?_,fun i t _ u => by rw [c] at u; cases u⟩
 ·
  unfold zsk;have W:=zqw (xs:=xs) D p;obtain ⟨n,X⟩ : ∃ n,p = zfE xs D p + n:=⟨p - zfE xs D p,by omega⟩;have:=zqp d (a:=zfE xs D p) n (by omega) fun i Z h2 h => ziC (xs:=xs) D p i Z (by omega) ⟨by rw [u]; simp; omega,h⟩;rw [← X] at this;exact this.symm
 ·
  obtain ⟨q1,M⟩:=zhP C.w d p (ym _);refine yE fun q => ?_
  by_cases V : q < (rr 0).env.length
  ·have e1:=zid (D:=D) (q:=q) C.w d
   have e2:=M q
   have e3 : zik rr xs p D q = zik rr xs p (fun k => decide (k < p)) q:=by
    congr 1
    funext k
    exact u k
   rw [e3,← e2] at e1;rw [ya,ya] at e1;have O : q < (zeR rr xs p D).length:=(by simpa [zeR] using V);have N : q < (rr p).env.length:=(by omega);rw [yc O,yc N] at e1 ⊢;simpa using e1
  ·rw [yl (by simp [zeR]; omega),yl (by omega)]
 ·
  unfold left;exact Nat.le_trans (List.length_filter_le _ _) (by simp)
 ·rw [f]; exact K
 ·rw [f]; exact D2
 ·rw [f,o]
  exact K.zh _ _ (F.env i t Y)
end
end Go.A
namespace Go.A
def zBs : Oper → Bool
 | ⟨.loc,.al _ [],none⟩ => true
 | ⟨.slot _,.al _ [],none⟩ => true
 | ⟨.loc,.mks _ none _,none⟩ => true
 | _ => false
def eff (xs : List Oper) (i : Nat) : Bool:=decide (3 ≤ cls xs i)
def zJg (ms : List Nat) (xs : List Oper) (p j K : Nat) : Bool:=!(decide (K < p) && bit ms j K) && (yf K).all fun e => !(eff xs e && bit ms e j)
def harmless (xs : List Oper) (p c j K : Nat) : Bool:=(yf p).all fun i => !(eff xs i) || !(decide (min j K ≤ i) && decide (i < max j K)) || cls xs i == 4 || (c == 1 && decide (cls xs i ≤ 4))
def zBd : D → Bool
 | .loc => true
 | _ => false
def zLD : Op → Bool
 | .call _ _ _ => false
 | _ => true
def zxn (ms : List Nat) (xs : List Oper) (ps : List (Nat × Nat)) (p j : Nat) (x : Oper) : Bool :=
 zbt x.op == 0 || decide (3 ≤ zbt x.op) || (yf (p + 1)).all fun K => !(K == p || eff xs K) || !(zJg ms xs p j K) || harmless xs p (zbt x.op) j K || (ps.contains (j,K) && zBd x.dst && zLD x.op)
def zvx (xs : List Oper) (gops : Array Go.Oper) (j i : Nat) (y : Oper) : Bool:=(zaY gops j).contains i || (match (xs[i]?).bind writes with
 | some q => zgz q y
 | none => false)
def zuQ (ms : List Nat) (gops : Array Go.Oper) (xs : List Oper) (i j : Nat) : Bool:=match xs[i]?,xs[j]? with
 | some x,some y => (zhK x y || bit ms j i) && (match writes x,writes y with
   | some q,some q' => q != q'
   | _,_ => true) && (!(eff xs i && eff xs j) || zBs y || bit ms j i) && (!(zBs x && zvx xs gops j i y) || (yf i).all fun e => !(eff xs e) || bit ms j e)
 | _,_ => false
def zya (P : Program) (κ : List Tmp) (nt : Nat) (gops : Array Go.Oper) (ps : List (Nat × Nat)) (xs : List Oper) (ms : List Nat) (p j : Nat) : Bool:=match gops[j]?,xs[j]? with
 | some o,some x => okD κ nt o.dst x.dst && zg6 κ (zgo gops xs j) gops o.guard x.guard && zom P κ (zgo gops xs j) o x.dst x.op && (zfJ x).all (zA8 (zgo gops xs j)) && (yf j).all (fun i => zuQ ms gops xs i j) && zxn ms xs ps p j x
 | _,_ => false
def zqu (P : Program) : List Tmp → Nat → Array Go.Oper → List (Nat × Nat) → List Oper → Bool:=fun κ nt gops ps xs =>
 let ms:=zoh gops.toList []
 let p:=zqr ms gops.size
 zkA gops ms && xs.length == gops.size && decide (p ≤ gops.size) && zk2 (zIZ gops xs p) && (yf p).all (zya P κ nt gops ps xs ms p) && (yf gops.size).all fun j => decide (j < p) || zj7 P κ nt gops xs ms j
structure Chk2 (P : Program) (κ : List Tmp) (nt : Nat) (gops : Array Go.Oper) (ps : List (Nat × Nat)) (xs : List Oper) (ms : List Nat) (p : Nat) : Prop where
 masks : zkA gops ms = true
 len : xs.length = gops.size
 p_le : p ≤ gops.size
 dup : zk2 (zIZ gops xs p) = true
 pre : ∀ j,j < p → zya P κ nt gops ps xs ms p j = true
 tail : ∀ j,p ≤ j → j < gops.size → zj7 P κ nt gops xs ms j = true
section
variable {P : Program} {κ : List Tmp} {nt : Nat} {gops : Array Go.Oper} {ps : List (Nat × Nat)} {xs : List Oper} {ms : List Nat} {p b l : Nat} {Cf : zaz} {rr : Nat → R}
theorem zIB (h : zqu P κ nt gops ps xs = true) : ∃ ms p,Chk2 P κ nt gops ps xs ms p:=by
 unfold zqu at h;simp only [yb,beq_iff_eq,decide_eq_true_eq] at h;obtain ⟨⟨⟨⟨⟨c,i⟩,f⟩,g⟩,e⟩,d⟩:=h;refine ⟨_,_,c,i,f,g,fun j b => yg.1 e j (by simpa using b),fun j b a => ?_⟩;have:=yg.1 d j (by simpa using a);simp only [yj,decide_eq_true_eq] at this;rcases this with h | h
 ·omega
 ·exact h
theorem Chk2.pre_some (C : Chk2 P κ nt gops ps xs ms p) {j : Nat} (c : j < p) {o : Go.Oper} {x : Oper} (e : gops[j]? = some o) (d : xs[j]? = some x) :
  okD κ nt o.dst x.dst = true ∧ zg6 κ (zgo gops xs j) gops o.guard x.guard = true ∧ zom P κ (zgo gops xs j) o x.dst x.op = true ∧ (∀ y ∈ zfJ x,zA8 (zgo gops xs j) y = true) ∧ (∀ i,i < j → zuQ ms gops xs i j = true) ∧ zxn ms xs ps p j x = true:=by
 have h:=C.pre j c;unfold zya at h;rw [e,d] at h;simp only [yb] at h;obtain ⟨⟨⟨⟨⟨a,n⟩,k⟩,m⟩,g⟩,f⟩:=h;exact ⟨a,n,k,fun y b => yg.1 m y b,fun i l => yg.1 g i (by simpa using l),f⟩
theorem Chk2.plan (C : Chk2 P κ nt gops ps xs ms p) : Plan P κ nt gops xs p where
 len:=C.len
 p_le:=C.p_le
 back:=fun j o b i d => by
  have a : j < gops.size:=(yh.1 b).1;exact (zmB C.masks a).2 i (by unfold zaY; rw [b]; exact d)
 pre:=fun j o x a b f => (C.pre_some a b f).1
 apart:=fun i j t d a e g => zmC C.dup yG i (by simpa using d) j (by simpa using a) t e g
 tail:=fun j o x a b f => by
  have c : j < gops.size:=(yh.1 b).1;have h:=C.tail j a c;unfold zj7 at h;rw [b,f] at h;simp only [yb] at h;obtain ⟨⟨⟨e,g⟩,l⟩,k⟩:=h;exact ⟨e,g,l,fun i d => zfX C.masks j c (yg.1 k i (by simpa using d))⟩
theorem Chk2.pair (C : Chk2 P κ nt gops ps xs ms p) {i j : Nat} (f : i < j) (o : j < p) {x y : Oper} (u : xs[i]? = some x) (m : xs[j]? = some y) :
  (zhK x y = true ∨ Reach gops j i) ∧ (∀ q,writes x = some q → writes y ≠ some q) ∧ (eff xs i = true → eff xs j = true → zBs y = true ∨ Reach gops j i) ∧
  (zBs x = true → zvx xs gops j i y = true → ∀ e,e < i → eff xs e = true → Reach gops j e):=by
 have a : j < gops.size:=yp o C.p_le;have h:=(C.pre_some o (yn a) m).2.2.2.2.1 i f;unfold zuQ at h;rw [u,m] at h;simp only [yb,yj] at h;obtain ⟨⟨⟨t,n⟩,b⟩,c⟩:=h;refine ⟨t.imp id fun h => zfX C.masks j a h,fun q s d => ?_,fun k l => ?_,fun r hu e he g => ?_⟩
 ·rw [s,d] at n
  simp at n
 ·rcases b with (b | b) | b
  ·simp [k,l] at b
  ·exact .inl b
  ·exact .inr (zfX C.masks j a b)
 ·rcases c with c | c
  ·simp [r,hu] at c
  ·have:=yg.1 c e (by simpa using he)
   simp only [yj,yt] at this;rcases this with h | h
   ·rw [g] at h; cases h
   ·exact zfX C.masks j a h
theorem Chk2.w (C : Chk2 P κ nt gops ps xs ms p) : ChkW xs p:=⟨by rw [C.len]; exact C.p_le,fun a c _ _ d b => (C.pair a c d b).2.1⟩
def vis (xs : List Oper) (D : Nat → Bool) (K k : Nat) : Bool:=D k && (!(eff xs k) || decide (k < K))
def zeQ (rr : Nat → R) (xs : List Oper) (p : Nat) (D : Nat → Bool) (K q : Nat) : V:=match wr xs p q with
 | some k => if vis xs D K k then (rr (k + 1)).env.getD q vun else if D k then vun else (rr 0).env.getD q vun
 | none => (rr 0).env.getD q vun
def zqE (rr : Nat → R) (xs : List Oper) (p : Nat) (D : Nat → Bool) (K : Nat) : List V:=(yf (rr 0).env.length).map (zeQ rr xs p D K)
theorem zoq {D : Nat → Bool} {K q : Nat} (C : ChkW xs p) (b : ∀ i x,xs[i]? = some x → step Cf (rr i) x = some (rr (i + 1))) : (zqE rr xs p D K).getD q vun = zeQ rr xs p D K q:=by
 unfold zqE
 by_cases a : q < (rr 0).env.length
 ·simp [ya,a]
 ·have e0 : (rr 0).env.getD q vun = vun:=by simp [ya,a]
  have e1 : ((yf (rr 0).env.length).map (zeQ rr xs p D K)).getD q vun = vun:=by simp [ya,a]
  rw [e1];unfold zeQ;split
  ·rename_i k d
   obtain ⟨e,_⟩:=zhO d;have c:=(zhP C b (k + 1) (by omega)).1;split
   ·simp [ya,c,a]
   ·split
    ·rfl
    ·exact e0.symm
  ·exact e0.symm
inductive Mk where
 | ptr
 | own (n : Nat)
def Mk.v (id : Nat) : Mk → V
 | .ptr => .one (.ptr (id + 0) 0 0 0)
 | .own n => .one (.own id 0 0 n)
def Mk.u (b : Nat) : Mk → Value
 | .ptr => .pointer (some ⟨b,0,none⟩)
 | .own n => .slice (some ⟨b,0,none⟩) n n
def Mk.ok (sz : Nat) (es : List (List C)) : Mk → Prop
 | .ptr => es.length = 1
 | .own n => es.length = n
structure Raw (P : Program) (gops : Array Go.Oper) (xs : List Oper) (rr : Nat → R) (w0 : World) (g : G) (w : World) (a : Act) (i b : Nat) : Prop where
 it : ∃ (o : Go.Oper) (x : Oper) (sz : Nat) (es : List (List C)) (arr : Array Value) (ty : TypeId) (t : Tmp) (kd : Mk),gops[i]? = some o ∧ xs[i]? = some x ∧ zBs x = true ∧ o.dst = some t ∧ w.heap[b]? = some (.cells arr ty) ∧ a.tmps.getD t undef = kd.u b ∧
  arr.size = es.length * sz ∧ (∀ g w σ,zeg g w σ arr sz es) ∧ kd.ok sz es ∧ rr (i + 1) = ((rr i).at ((rr i).st ++ [.cells 0 sz es])).put x.dst (kd.v (rr i).st.length)
 ow : g.ow b = .no
 no : ∀ o,¬ g.N b o
 new : w0.heap.size ≤ b
structure Mid2 (P : Program) (gops : Array Go.Oper) (xs : List Oper) (κ : List Tmp) (nt p : Nat) (rr : Nat → R) (g0 : G) (w0 : World) (σ0 : zd) (D : Nat → Bool) (K : Nat) (B : Nat → Nat) (g : G) (w : World) (a : Act) : Prop where
 ext : Ext g0 w0 σ0 g w (rr K).st
 rel : Rel g w (rr K).st
 size : a.tmps.size = nt
 df : a.defers = []
 slot : ∀ (i : Nat) (t : Tmp),κ[i]? = some t → zh g w (rr K).st (zeQ rr xs p D K i) (a.tmps.getD t undef)
 done : ∀ i t,i < p → vis xs D K i = true → lo gops xs i = some t → zh g w (rr K).st (zbF rr i) (a.tmps.getD t undef)
 kp : K ≤ p
 before : ∀ i,i < K → eff xs i = true → D i = true
 raw : ∀ i,i < p → D i = true → vis xs D K i = false → Raw P gops xs rr w0 g w a i (B i)
 inj : ∀ i j,i < p → j < p → D i = true → vis xs D K i = false → D j = true → vis xs D K j = false → B i = B j → i = j
theorem zmj {D : Nat → Bool} {K i : Nat} (h : i ≠ K) : vis xs D (K + 1) i = vis xs D K i:=by
 unfold vis
 have : decide (i < K + 1) = decide (i < K):=by
  simp only [decide_eq_decide];omega
 rw [this]
theorem zf1 {D : Nat → Bool} {K i : Nat} (h : eff xs K = false) : vis xs D (K + 1) i = vis xs D K i:=by
 by_cases e : i = K
 ·subst e
  unfold vis;simp [h]
 ·exact zmj e
theorem zK1 {g g0 : G} {w w0 : World} {σ σ0 : zd} (R : Rel g w σ) (r : Ext g0 w0 σ0 g w σ) {b : Nat} {ty : TypeId} {arr : Array Value} {sz : Nat} {es : List (List C)} {kd : Mk} (E : arr.size = es.length * sz) (d : ∀ g w σ,zeg g w σ arr sz es) (f : kd.ok sz es) (i : w.heap[b]? = some (.cells arr ty))
  (q : g.ow b = .no) (y : ∀ o,¬ g.N b o) (A : w0.heap.size ≤ b) :
  Ext g0 w0 σ0 (g.own σ.length b) w (σ ++ [.cells 0 sz es]) ∧ Rel (g.own σ.length b) w (σ ++ [.cells 0 sz es]) ∧
  (∀ v u,zh g w σ v u → zh (g.own σ.length b) w (σ ++ [.cells 0 sz es]) v u) ∧
  zh (g.own σ.length b) w (σ ++ [.cells 0 sz es]) (kd.v σ.length) (kd.u b):=by
 let g1 : G:={ g with ow:=zxe g.ow b (.ob σ.length) }
 have B : Rel g1 w σ:=zv6 R rfl rfl rfl (fun c id _ h => by
  by_cases e : c = b
  ·subst e; rw [q] at h; cases h
  ·exact (zaC g.ow _ e).trans h) (fun c t k _ h => by
  by_cases e : c = b
  ·subst e; rw [q] at h; cases h
  ·exact (zaC g.ow _ e).trans h)
 have H1 : Ext g0 w0 σ0 g1 w σ:={ r with ow:=fun c p => (zaC g.ow _ (by omega)).trans (r.ow c p) };have D : b < w.heap.size:=(yh.1 i).1
 have j : Ext g1 w σ (g.own σ.length b) w (σ ++ [.cells 0 sz es]):={
  os:=rfl
  tape:=rfl
  output:=rfl
  size:=ym _
  keeps:=fun _ _ h => ⟨h,rfl⟩
  len:=by simp
  shape:=fun id x sz len h => by
   obtain ⟨es,a,s⟩:=zbs h;have m:=zb a;exact .inl ⟨by unfold shapeOf; rw [yd m]; exact h,zaC g.ρ _ (by omega),fun _ arr t z => ⟨arr,z,rfl⟩⟩
  map:=fun id es h => ⟨zaC g.ρ _ (by have:=zb h; omega),es,by rw [yd (zb h)]; exact h⟩
  tok:=fun t k n h => by
   obtain ⟨sz,fr,a,s⟩:=zee h;exact ⟨n,zfr (by rw [yd (zb a)]; exact a) s,ym _,fun _ => rfl⟩
  tsz:=fun t sz h => by
   obtain ⟨fr,a⟩:=zgs h;exact zdy (fr:=fr) (by rw [yd (zb a)]; exact a)
  ow:=fun _ _ => rfl
  new:=fun _ _ h _ _ => h
  frame:=fun _ _ _ => rfl }
 refine ⟨H1.trans j,⟨R.nb,fun id ob h => ?_⟩,fun v u h => j.zh _ _ (zgJ (g:=g) (g':=g1) rfl rfl rfl v u h),?_⟩
 ·by_cases m : id < σ.length
  ·rw [yd m] at h
   exact zdb j (zaC g.ρ _ (by omega)) (fun _ => rfl) (fun c _ _ => ⟨rfl,rfl,fun _ h => h⟩) (B.ob id ob h)
  ·have l : id = σ.length:=by
    have:=zb h;simp at this;omega
   subst l;simp at h;subst h;exact fun _ => ⟨by simp [G.own],fun o => by simp [G.own]; exact y o,arr,ty,by simpa [G.own] using i,by omega,d _ _ _⟩
 ·cases kd with
  | ptr =>
    simp only [Mk.v,Mk.u,zh,zK,Nat.add_zero];exact ⟨0,sz,es.length,zG (zmi σ _),ym _,fun _ => by simp [G.own],_,rfl⟩
  | own n =>
    simp only [Mk.ok] at f;subst f;simp only [Mk.v,Mk.u,zh,zK];refine ⟨0,sz,es.length,zG (zmi σ _),ym _,fun _ => ⟨_,_,rfl,ym _,fun h => h,fun _ => ⟨by omega,fun _ => by simp [G.own],arr,ty,?_,by rw [Nat.zero_add]; omega⟩⟩,_,_,rfl⟩;simpa [G.own] using i
end
section
variable {P : Program} {κ : List Tmp} {nt : Nat} {gops : Array Go.Oper} {ps : List (Nat × Nat)} {xs : List Oper} {ms : List Nat} {p b l : Nat} {Cf : zaz} {rr : Nat → R} {g0 : G} {w0 : World} {σ0 : zd}
theorem zs5 {x : Oper} {q : Nat} (h : writes x = some q) : x.dst = .slot q:=by
 obtain ⟨d,op,a⟩:=x;cases d <;> simp [writes] at h;subst h;rfl
theorem zib {x : Oper} {q : Nat} (h : x.dst = .slot q) : writes x = some q:=by
 obtain ⟨d,op,a⟩:=x;simp only at h;subst h;rfl
theorem zlV {α : Type} {l : List α} (c : l.Nodup) {i j : Nat} {x : α} (a : l[i]? = some x) (b : l[j]? = some x) : i = j:=by
 induction l generalizing i j with
 | nil => simp at a
 | cons y l ih =>
   rw [yH] at c
   cases i with
   | zero =>
     cases j with
     | zero => rfl
     | succ j =>
       simp at a b;subst a;exact absurd (yk b) c.1
   | succ i =>
     cases j with
     | zero =>
       simp at a b;subst b;exact absurd (yk a) c.1
     | succ j =>
       simp at a b;rw [ih c.2 a b]
theorem zjW {x : Oper} (h : zBs x = true) : x.guard = none ∧ (x.dst = .loc ∨ ∃ q,x.dst = .slot q) ∧ ((∃ zero,x.op = .al zero []) ∨ ∃ zero n,x.op = .mks zero none n):=by
 unfold zBs at h;split at h
 all_goals first | exact ⟨rfl,.inl rfl,.inl ⟨_,rfl⟩⟩ | exact ⟨rfl,.inr ⟨_,rfl⟩,.inl ⟨_,rfl⟩⟩ | exact ⟨rfl,.inl rfl,.inr ⟨_,_,rfl⟩⟩ | cases h
theorem zHW {r r1 : R} {x : Oper} {zero : List C} (h : zBs x = true) (a : x.op = .al zero []) (c : step Cf r x = some r1) :
  r1 = (r.at (r.st ++ [.cells 0 zero.length [zero]])).put x.dst (.one (.ptr (r.st.length + 0) 0 0 0)):=by
 obtain ⟨b,_,_⟩:=zjW h;obtain ⟨d,op,e⟩:=x;simp only at b a;subst b a;simp only [step,zbM,Option.some.injEq] at c;rw [← c];simp [aal,tokens,zht,R.allocs,R.at]
theorem zIc {r r1 : R} {x : Oper} {zero : List C} {n : X} (h : zBs x = true) (b : x.op = .mks zero none n) (a : step Cf r x = some r1) :
  ∃ kk m,r.get n = .one (.f (.lit (.int kk m))) ∧ 0 ≤ m ∧ m ≤ LIM ∧ r1 = (r.at (r.st ++ [.cells 0 zero.length (yA m.toNat zero)])).put x.dst (.one (.own r.st.length 0 0 m.toNat)):=by
 obtain ⟨c,_,_⟩:=zjW h;obtain ⟨d,op,g⟩:=x;simp only at c b;subst c b;simp only [step,zbM] at a;unfold zI2 at a;split at a
 ·rename_i e
  split at a
  ·rename_i hm
   injection a with a;exact ⟨_,_,e,hm.1,hm.2,a.symm⟩
  ·cases a
 ·contradiction
 ·cases a
theorem zv9 (b : ∀ i x,xs[i]? = some x → step Cf (rr i) x = some (rr (i + 1))) {K : Nat} (d : K < xs.length) (he : eff xs K = false) : (rr (K + 1)).st = (rr K).st :=
 zqp b (a:=K) 1 (by omega) fun k c e h => by
  have : k = K:=by omega
  subst this;unfold eff at he;simp [h] at he
theorem zGO (C : Chk2 P κ nt gops ps xs ms p) (U : ∀ i x,xs[i]? = some x → step Cf (rr i) x = some (rr (i + 1))) (u : (rr 0).env.length = κ.length) {D : Nat → Bool} {K : Nat} {B : Nat → Nat} {g : G} {w : World} {a : Act}
  (M : Mid2 P gops xs κ nt p rr g0 w0 σ0 D K B g w a) (H : K < p) (h : eff xs K = false ∨ D K = true) : ∃ g',Mid2 P gops xs κ nt p rr g0 w0 σ0 D (K + 1) B g' w a:=by
 have V : K < xs.length:=yp H C.w.le
 cases he : eff xs K with
 | false =>
   have s:=zv9 U V he
   have u : ∀ q,zeQ rr xs p D (K + 1) q = zeQ rr xs p D K q:=fun q => by
    unfold zeQ;split
    ·rw [zf1 he]
    ·rfl
   refine ⟨g,⟨by rw [s]; exact M.ext,by rw [s]; exact M.rel,M.size,M.df,fun i t Y => by rw [s,u]; exact M.slot i t Y,fun i t m I Y => by rw [s]; exact M.done i t m (by rw [← zf1 he]; exact I) Y,H,fun i m y => ?_,
    fun i m L I => M.raw i m L (by rw [← zf1 he]; exact I),fun i j m Z n b J r => M.inj i j m Z n (by rw [← zf1 he]; exact b) J (by rw [← zf1 he]; exact r)⟩⟩
   by_cases e : i = K
   ·subst e; rw [he] at y; cases y
   ·exact M.before i (by omega) y
 | true =>
   have L : D K = true:=by
    rcases h with h | h
    ·rw [he] at h; cases h
    ·exact h
   have N : vis xs D K K = false:=(by simp [vis,he]);obtain ⟨⟨o,x,sz,es,arr,ty,t,kd,ho,hx,aD,A,hb,E,hz,Q,aB,l⟩,aC,aA,S⟩:=M.raw K H L N;obtain ⟨hg,hd,_⟩:=zjW aD;obtain ⟨H1,R1,I,hp⟩:=zK1 M.rel M.ext hz Q aB hb aC aA S;have s : (rr (K + 1)).st = (rr K).st ++ [.cells 0 sz es]:=(by rw [l,zfW]; rfl);rw [← s] at H1 R1 I hp;have aG : K < gops.size:=(by rw [← C.len]; exact V);have f:=(C.pre_some H ho hx).1;rw [A] at f;have d : vis xs D (K + 1) K = true:=(by simp [vis,L]);refine ⟨_,⟨H1,R1,M.size,M.df,fun q W c => ?_,fun i W m b c => ?_,H,fun i m y => ?_,fun i m n b => ?_,fun i j m Z n b J r hB => ?_⟩⟩
   ·
    by_cases hw : wr xs p q = some K
    ·have X:=zhO hw
     obtain ⟨_,x',z,aF⟩:=X;rw [hx] at z;injection z with z;subst z;unfold zeQ;rw [hw];simp only [d,if_true]
     have O : x.dst = .slot q:=by
      exact zs5 aF
     rw [O] at f;simp only [okD,beq_iff_eq] at f;rw [c] at f;injection f with f;subst f;rw [E]
     have hlen : q < (rr K).env.length:=by
      rw [(zhP C.w U K (yF H)).1,u];exact zb c
     have : (rr (K + 1)).env.getD q vun = kd.v (rr K).st.length:=by
      rw [l,O];simp [R.put,R.at,ya,hlen]
     rw [this];exact hp
    ·have : zeQ rr xs p D (K + 1) q = zeQ rr xs p D K q:=by
      unfold zeQ;split
      ·rename_i k hk
       rw [zmj (fun e => by subst e; exact hw hk)]
      ·rfl
     rw [this];exact I _ _ (M.slot q W c)
   ·by_cases e : i = K
    ·subst e
     have hl : lo gops xs i = zbE o.dst x.dst:=(by unfold lo; rw [ho,hx]);rw [hl,A] at c;rcases hd with hd | ⟨q,hd⟩
     ·rw [hd] at c
      simp only [zbE,Option.some.injEq] at c;subst c;rw [E]
      have : zbF rr i = kd.v (rr i).st.length:=by
       unfold zbF;rw [l,hd];rfl
      rw [this];exact hp
     ·rw [hd] at c
      simp [zbE] at c
    ·rw [zmj e] at b
     exact I _ _ (M.done i W m b c)
   ·by_cases e : i = K
    ·subst e; exact L
    ·exact M.before i (by omega) y
   ·have e : i ≠ K:=fun e => by subst e; rw [d] at b; cases b
    rw [zmj e] at b;have aE : B i ≠ B K:=fun hB => e (M.inj i K m H n b L N hB);obtain ⟨k1,k2,k3,k4⟩:=M.raw i m n b;exact ⟨k1,(zaC g.ow _ aE).trans k2,k3,k4⟩
   ·have e1 : i ≠ K:=fun e => by subst e; rw [d] at b; cases b
    have e2 : j ≠ K:=fun e => by subst e; rw [d] at r; cases r
    rw [zmj e1] at b;rw [zmj e2] at r;exact M.inj i j m Z n b J r hB
def zCg (xs : List Oper) (p : Nat) (D : Nat → Bool) (K : Nat) : Prop:=K = p ∨ (eff xs K = true ∧ D K = false)
theorem zDJ (C : Chk2 P κ nt gops ps xs ms p) (c : ∀ i x,xs[i]? = some x → step Cf (rr i) x = some (rr (i + 1))) (b : (rr 0).env.length = κ.length) {D : Nat → Bool} {B : Nat → Nat} {w : World} {a : Act} : ∀ (n K : Nat) (g : G),p - K = n →
  Mid2 P gops xs κ nt p rr g0 w0 σ0 D K B g w a → ∃ K' g',Mid2 P gops xs κ nt p rr g0 w0 σ0 D K' B g' w a ∧ zCg xs p D K'
 | 0,K,g,hn,M => ⟨K,g,M,.inl (by have:=M.kp; omega)⟩
 | n + 1,K,g,hn,M => by
   by_cases h : eff xs K = false ∨ D K = true
   ·obtain ⟨g',d⟩:=zGO C c b M (by omega) h
    exact zDJ C c b n (K + 1) g' (by omega) d
   ·simp only [not_or,Bool.not_eq_false,Bool.not_eq_true] at h
    exact ⟨K,g,M,.inr h⟩
theorem zFv {D : Nat → Bool} {K j : Nat} (a : zCg xs p D K) (h : D j = true) (b : j < p) (he : eff xs j = true) : j ≠ K:=fun e => by
 subst e;rcases a with a | ⟨_,a⟩
 ·omega
 ·rw [h] at a; cases a
theorem Raw.ext {g g' : G} {w w' : World} {a m : Act} {σ σ' : zd} {i b : Nat} (h : Raw P gops xs rr w0 g w a i b) (H : Ext g w σ g' w' σ') (u : ∀ t,(∃ o,gops[i]? = some o ∧ o.dst = some t) → m.tmps.getD t undef = a.tmps.getD t undef) : Raw P gops xs rr w0 g' w' m i b:=by
 obtain ⟨⟨o,x,sz,es,arr,ty,t,kd,n,r,s,l,j,q,k⟩,d,f,e⟩:=h;have c : b < w.heap.size:=(yh.1 j).1;exact ⟨⟨o,x,sz,es,arr,ty,t,kd,n,r,s,l,(H.frame b c d).trans j,(u t ⟨o,n,l⟩).trans q,k⟩,(H.ow b c).trans d,fun o p => f o (H.new b o p c d),e⟩
def zpm (gops : Array Go.Oper) (i : Nat) : Option Tmp:=(gops[i]?).bind (·.dst)
theorem zvv (C : Chk2 P κ nt gops ps xs ms p) (u : κ.Nodup) {i j : Nat} (o : i < p) (r : j < p) (m : i ≠ j) {t : Tmp} (n : zpm gops i = some t) (l : zpm gops j = some t) : False:=by
 have e : i < gops.size:=yp o C.p_le;have c : j < gops.size:=yp r C.p_le;have k : gops[i]? = some gops[i]:=yn e;have g : gops[j]? = some gops[j]:=yn c;have f : xs[i]? = some (xs[i]'(by rw [C.len]; exact e)):=yc (by rw [C.len]; exact e);have d : xs[j]? = some (xs[j]'(by rw [C.len]; exact c)):=yc (by rw [C.len]; exact c);have di:=(C.pre_some o k f).1;have dj:=(C.pre_some r g d).1;unfold zpm at n l;rw [k] at n;rw [g] at l;simp only [yo] at n l;rw [n] at di;rw [l] at dj
 cases b : (xs[i]'(by rw [C.len]; exact e)).dst with
 | no => rw [b] at di; simp [okD] at di
 | loc =>
   rw [b] at di
   cases a : (xs[j]'(by rw [C.len]; exact c)).dst with
   | no => rw [a] at dj; simp [okD] at dj
   | loc =>
     have e1 : lo gops xs i = some t:=(by unfold lo; rw [k,f]; simp [zbE,n,b]);have e2 : lo gops xs j = some t:=(by unfold lo; rw [g,d]; simp [zbE,l,a]);exact m (C.plan.apart i j t o r e1 e2)
   | slot q =>
     rw [a] at dj;simp only [okD,beq_iff_eq] at dj;simp only [okD,yb,yt] at di;have : t ∈ κ:=yk dj;simp [this] at di
 | slot q =>
   rw [b] at di;simp only [okD,beq_iff_eq] at di
   cases a : (xs[j]'(by rw [C.len]; exact c)).dst with
   | no => rw [a] at dj; simp [okD] at dj
   | loc =>
     rw [a] at dj;simp only [okD,yb,yt] at dj;have : t ∈ κ:=yk di;simp [this] at dj
   | slot q' =>
     rw [a] at dj;simp only [okD,beq_iff_eq] at dj;have s : q = q':=zlV u di dj;subst s;rcases Nat.lt_or_gt_of_ne m with h | h
     ·exact (C.pair h r f d).2.1 q (zib b) (zib a)
     ·exact (C.pair h o d f).2.1 q (zib a) (zib b)
theorem znR {a : Act} {d : Option Tmp} {u : Value} {t : Tmp} (h : d ≠ some t) : (a.put d u).tmps.getD t undef = a.tmps.getD t undef:=by
 cases d with
 | none => rfl
 | some t' =>
   simp only [Act.put,zjg];rw [if_neg (fun e => h (by rw [e.1]))]
end
section
variable {P : Program} {κ : List Tmp} {nt : Nat} {gops : Array Go.Oper} {ps : List (Nat × Nat)} {xs : List Oper} {ms : List Nat} {p b l : Nat} {Cf : zaz} {rr : Nat → R} {g0 : G} {w0 : World} {σ0 : zd}
theorem zHl (C : Chk2 P κ nt gops ps xs ms p) {D : Nat → Bool} {K j i : Nat} (a : zi0 gops D) (s : ∀ i ∈ zaY gops j,D i = true) (f : zCg xs p D K) (g : i < j) (t : j < p) {x y : Oper} (o : xs[i]? = some x) (q : xs[j]? = some y) (e : D i = true)
  (hu : zBs x = true → zvx xs gops j i y = true) : vis xs D K i = true:=by
 cases he : eff xs i with
 | false => simp [vis,e,he]
 | true =>
   have m:=zFv f e (by omega) he
   have l : i < K:=by
    rcases yv i K with h | h | h
    ·exact h
    ·exact absurd h m
    ·rcases f with f | ⟨c,b⟩
     ·omega
     ·have n : K < xs.length:=by have:=C.w.le; omega
      have k : xs[K]? = some xs[K]:=yc n;rcases (C.pair h (by omega) k o).2.2.1 c he with d | r
      ·have:=(C.pair g t o q).2.2.2 d (hu d) K h c
       have:=zbw a this s;rw [b] at this; cases this
      ·have:=zbw a r (a i e)
       rw [b] at this; cases this
   simp [vis,e,l]
theorem ztu (C : Chk2 P κ nt gops ps xs ms p) (h : ∀ i x,xs[i]? = some x → step Cf (rr i) x = some (rr (i + 1))) (e : (rr 0).env.length = κ.length) (m : κ.Nodup) (n : ∀ t ∈ κ,t < nt) {D : Nat → Bool} {K j : Nat} {B : Nat → Nat} {g : G} {w : World} {a : Act}
  (s : j ≤ p) (f : Nat → Option Tmp) (o : ∀ i t,i < j → f i = some t → vis xs D K i = true ∧ lo gops xs i = some t) (M : Mid2 P gops xs κ nt p rr g0 w0 σ0 D K B g w a) :
  Fr κ ((yf j).reverse.map f) nt g w ⟨(yf j).reverse.map (zbF rr),zqE rr xs p D K,(rr K).st,b,l⟩ a:=by
 refine ⟨M.size,by simp [zqE,e],fun i t q => by simp only [zoq C.w h]; exact M.slot i t q,fun d t hd _ => ?_,fun d t hd => ?_,m,n,M.df⟩
 ·have c : d < j:=by have:=zb hd; simpa using this
  rw [zl9 f c] at hd;injection hd with hd;obtain ⟨r,k⟩:=o _ t (by omega) hd;simp only [ya,zl9 (zbF rr) c,Option.getD_some];exact M.done _ t (by omega) r k
 ·have c : d < j:=by have:=zb hd; simpa using this
  rw [zl9 f c] at hd;injection hd with hd;obtain ⟨_,k⟩:=o _ t (by omega) hd;exact zsf C.plan (by omega : j - 1 - d < p) k
theorem zq1 {D : Nat → Bool} {K a j i : Nat} (h : (a = K ∧ eff xs j = false) ∨ (a = K + 1 ∧ j = K)) : vis xs (zbN D j) a i = if i = j then true else vis xs D K i:=by
 by_cases e : i = j
 ·subst e
  rw [if_pos rfl];rcases h with ⟨_,h⟩ | ⟨rfl,rfl⟩
  ·simp [vis,zbN,h]
  ·simp [vis,zbN]
 ·rw [if_neg e]
  have : zbN D j i = D i:=by simp [zbN,e]
  unfold vis;rw [this];rcases h with ⟨rfl,_⟩ | ⟨rfl,rfl⟩
  ·rfl
  ·have : decide (i < j + 1) = decide (i < j):=by
    simp only [decide_eq_decide];omega
   rw [this]
theorem zwx (C : Chk2 P κ nt gops ps xs ms p) (J : ∀ i x,xs[i]? = some x → step Cf (rr i) x = some (rr (i + 1))) (O : (rr 0).env.length = κ.length) (aC : κ.Nodup) {D : Nat → Bool} {K n j : Nat} {B : Nat → Nat} {g g' : G} {w w' : World} {a : Act} {u : Value} {o : Go.Oper} {x : Oper} {v : V} {σ1 : zd}
  (M : Mid2 P gops xs κ nt p rr g0 w0 σ0 D K B g w a) (E : (n = K ∧ eff xs j = false) ∨ (n = K + 1 ∧ j = K)) (S : j < p) (aE : D j = false) (ho : gops[j]? = some o) (U : xs[j]? = some x) (hv : rr (j + 1) = ((rr j).at σ1).put x.dst v)
  (H : Ext g w (rr K).st g' w' (rr n).st) (R1 : Rel g' w' (rr n).st)
  (F : Fr κ (zbE o.dst x.dst :: zgo gops xs j) nt g' w' ((⟨(yf j).reverse.map (zbF rr),zqE rr xs p D K,(rr n).st,b,l⟩ : R).put x.dst v) (a.put o.dst u)) :
  Mid2 P gops xs κ nt p rr g0 w0 σ0 (zbN D j) n B g' w' (a.put o.dst u):=by
 have Q : x.dst = .loc → zbF rr j = v:=fun h => by unfold zbF; rw [hv,h]; rfl
 have aF:=(C.pre_some S ho U).1
 have aA : n ≤ p:=by
  rcases E with ⟨rfl,_⟩ | ⟨rfl,rfl⟩
  ·exact M.kp
  ·omega
 have A : ((⟨(yf j).reverse.map (zbF rr),zqE rr xs p D K,(rr n).st,b,l⟩ : R).put x.dst v).st = (rr n).st:=zfW _ _ _;have hold : ∀ i,i ≠ j → i < p → vis xs (zbN D j) n i = vis xs D K i:=fun i f _ => by rw [zq1 E,if_neg f]
 have z : ∀ i,i ≠ j → i < p → ∀ t,zpm gops i = some t → (a.put o.dst u).tmps.getD t undef = a.tmps.getD t undef:=fun i f X t d => znR fun e =>
  zvv C aC X S f d (by unfold zpm; rw [ho]; exact e)
 refine ⟨M.ext.trans H,R1,F.size,F.df,fun q t d => ?_,fun i t f c d => ?_,aA,fun i f N => ?_,fun i f I c => ?_,fun i i' f L I c r m hB => ?_⟩
 ·have hf:=F.env q t d
  rw [A] at hf
  have e : ((⟨(yf j).reverse.map (zbF rr),zqE rr xs p D K,(rr n).st,b,l⟩ : R).put x.dst v).env.getD q vun = zeQ rr xs p (zbN D j) n q:=by
   by_cases hw : writes x = some q
   ·have hd:=zs5 hw
    rw [hd];have hq : q < (rr 0).env.length:=(by rw [O]; exact zb d);have aB : q < (rr j).env.length:=(by rw [(zhP C.w J j (yF S)).1]; exact hq);have aD:=zGT C.w S U hw;unfold zeQ;rw [aD];simp only [zq1 E,if_true];rw [hv,hd];simp [R.put,R.at,ya,zqE,hq,aB]
   ·have e1 : ((⟨(yf j).reverse.map (zbF rr),zqE rr xs p D K,(rr n).st,b,l⟩ : R).put x.dst v).env.getD q vun = (zqE rr xs p D K).getD q vun:=by
     cases hd : x.dst with
     | no => rfl
     | loc => rfl
     | slot q' =>
       have y : q' ≠ q:=fun e => hw (by rw [← e]; exact zib hd);simp only [R.put,ya,yr y]
    rw [e1,zoq C.w J];unfold zeQ;split
    ·rename_i k hk
     obtain ⟨k1,x',W,k3⟩:=zhO hk
     have y : k ≠ j:=fun e => by subst e; rw [U] at W; injection W with W; subst W; exact hw k3
     have : zbN D j k = D k:=(by simp [zbN,y]);rw [hold k y k1,this]
    ·rfl
  rw [e] at hf;exact hf
 ·by_cases e : i = j
  ·subst e
   have s : zbE o.dst x.dst = some t:=by
    unfold lo at d;rw [ho,U] at d;exact d
   have hd : x.dst = .loc:=by
    unfold zbE at s;split at s
    ·rename_i h; exact h
    ·cases s
   have Y:=F.lc 0 t (by simp [s]) (by simp);rw [A] at Y;rw [Q hd];rw [hd] at Y;simpa [R.put] using Y
  ·rw [hold i e f] at c
   have:=H.zh _ _ (M.done i t f c d)
   have Z : zpm gops i = some t:=by
    unfold lo at d;unfold zpm;split at d
    ·rename_i o' x' h1 h2
     rw [h1];unfold zbE at d;split at d
     ·rename_i h3 _; injection d with d; subst d; exact h3
     ·cases d
    ·cases d
   rw [z i e f t Z];exact this
 ·by_cases e : i = j
  ·subst e; simp [zbN]
  ·have : zbN D j i = D i:=by simp [zbN,e]
   rw [this];rcases E with ⟨rfl,_⟩ | ⟨rfl,rfl⟩
   ·exact M.before i f N
   ·exact M.before i (by omega) N
 ·have e : i ≠ j:=fun e => by subst e; rw [zq1 E,if_pos rfl] at c; cases c
  rw [hold i e f] at c;have r : D i = true:=by simpa [zbN,e] using I
  exact (M.raw i f r c).ext H fun t ⟨o',h1,h2⟩ => z i e f t (by unfold zpm; rw [h1]; exact h2)
 ·have e : i ≠ j:=fun e => by subst e; rw [zq1 E,if_pos rfl] at c; cases c
  have e' : i' ≠ j:=fun e => by subst e; rw [zq1 E,if_pos rfl] at m; cases m
  rw [hold i e f] at c;rw [hold i' e' L] at m;exact M.inj i i' f L (by simpa [zbN,e] using I) c (by simpa [zbN,e'] using r) m hB
theorem zwI (C : Chk2 P κ nt gops ps xs ms p) (U : κ.Nodup) (aC : ∀ t ∈ κ,t < nt) {D : Nat → Bool} {K j : Nat} {B : Nat → Nat} {g : G} {w : World} {a : Act} {o : Go.Oper} {x : Oper}
  (M : Mid2 P gops xs κ nt p rr g0 w0 σ0 D K B g w a) (hj : j < p) (aJ : K < j) (he : eff xs j = true) (X : zBs x = true) (ho : gops[j]? = some o) (hx : xs[j]? = some x) {t : Tmp} (f : o.dst = some t)
  {sz : Nat} {es : List (List Go.A.C)} {arr : Array Value} {ty : TypeId} {kd : Mk} (aD : arr.size = es.length * sz) (R : ∀ g w σ,zeg g w σ arr sz es) (aG : kd.ok sz es) (O : rr (j + 1) = ((rr j).at ((rr j).st ++ [.cells 0 sz es])).put x.dst (kd.v (rr j).st.length)) :
  ∃ g' B',Mid2 P gops xs κ nt p rr g0 w0 σ0 (zbN D j) K B' g' (w.alloc (.cells arr ty)) (a.put o.dst (kd.u w.heap.size)):=by
 obtain ⟨V,E,_⟩:=zjW X;obtain ⟨k,_,hc,_⟩:=C.pre_some hj ho hx
 have L : t < nt ∧ (t ∈ κ → ∃ q,x.dst = .slot q ∧ κ[q]? = some t):=by
  rw [f] at k;rcases E with E | ⟨q,E⟩
  ·rw [E] at k
   simp only [okD,yb,yt,decide_eq_true_eq] at k;exact ⟨k.2,fun h => absurd h (by simpa using k.1)⟩
  ·rw [E] at k
   simp only [okD,beq_iff_eq] at k;exact ⟨aC t (yk k),fun _ => ⟨q,E,k⟩⟩
 let ob : Obj:=.cells arr ty
 let g' : G:={ g with ow:=zxe g.ow w.heap.size .no }
 have H : Ext g w (rr K).st g' (w.alloc ob) (rr K).st:=by
  have:=Ext.alloc M.rel ob g' (fun _ _ => rfl) (fun _ _ _ _ => rfl) (fun b hb => zaC g.ow _ (by omega)) (fun _ _ _ => Iff.rfl) [];simpa using this
 have R1 : Rel g' (w.alloc ob) (rr K).st:=⟨fun b i h => by rw [size_alloc]; have:=M.rel.nb b i h; omega,fun id W h => zdb H rfl (fun _ => rfl) (fun b hb _ => ⟨heap_alloc_old w ob hb,zaC g.ow _ (by omega),fun _ h => h⟩) (M.rel.ob id W h)⟩;refine ⟨g',zxe B j w.heap.size,?_⟩;have S : vis xs (zbN D j) K j = false:=by simp [vis,zbN,he]; omega
 have hold : ∀ i,i ≠ j → vis xs (zbN D j) K i = vis xs D K i:=fun i l => by simp [vis,zbN,l]
 have J : ∀ i,i ≠ j → i < p → ∀ r,zpm gops i = some r → ∀ u,(a.put o.dst u).tmps.getD r undef = a.tmps.getD r undef:=fun i l aF r ht u => znR fun e =>
  zvv C U aF hj l ht (by unfold zpm; rw [ho]; exact e)
 have y : ∀ i,i < p → D i = true → vis xs D K i = false → B i < w.heap.size:=fun i l s d => by
  obtain ⟨⟨_,_,_,_,_,_,_,_,_,_,_,_,h7,_⟩,_⟩:=M.raw i l s d;exact (yh.1 h7).1
 refine ⟨M.ext.trans H,R1,by simp [Act.put,f,M.size],by simp [Act.put,f,M.df],fun q r c => ?_,fun i r l d c => ?_,M.kp,fun i l aI => ?_,fun i l s d => ?_,fun i N l Q s d n m hB => ?_⟩
 ·by_cases hw : writes x = some q
  ·have aB:=zGT C.w hj hx hw
   unfold zeQ;rw [aB];simp only [S,Bool.false_eq_true,if_false];have : zbN D j j = true:=(by simp [zbN]);rw [this];simp only [if_true,vun,zh,zK]
  ·have e1 : zeQ rr xs p (zbN D j) K q = zeQ rr xs p D K q:=by
    unfold zeQ;split
    ·rename_i Z hk
     obtain ⟨_,x',k2,k3⟩:=zhO hk
     have Y : Z ≠ j:=fun e => by subst e; rw [hx] at k2; injection k2 with k2; subst k2; exact hw k3
     have : zbN D j Z = D Z:=(by simp [zbN,Y]);rw [hold Z Y,this]
    ·rfl
   rw [e1]
   have e2 : o.dst ≠ some r:=fun e => by
    rw [f] at e;injection e with e;subst e;obtain ⟨q',aE,aH⟩:=L.2 (yk c);have:=zlV U aH c;subst this;exact hw (zib aE)
   rw [znR e2];exact H.zh _ _ (M.slot q r c)
 ·have e : i ≠ j:=fun e => by subst e; rw [S] at d; cases d
  rw [hold i e] at d
  have aA : zpm gops i = some r:=by
   unfold lo at c;unfold zpm;split at c
   ·rename_i W x' V E
    rw [V];unfold zbE at c;split at c
    ·rename_i h3 _; injection c with c; subst c; exact h3
    ·cases c
   ·cases c
  rw [J i e l r aA];exact H.zh _ _ (M.done i r l d c)
 ·have : i ≠ j:=by omega
  have h0 : zbN D j i = D i:=by simp [zbN,this]
  rw [h0];exact M.before i l aI
 ·by_cases e : i = j
  ·subst e
   rw [ze1];refine ⟨⟨o,x,sz,es,arr,ty,t,kd,ho,hx,X,f,zaZ w ob,?_,aD,R,aG,O⟩,ze1 g.ow _ _,fun W hN => ?_,M.ext.size⟩
   ·rw [f]
    simp [Act.put,M.size,L.1]
   ·have:=M.rel.nb _ W hN
    omega
  ·rw [hold i e] at d
   have n : D i = true:=(by simpa [zbN,e] using s);rw [zaC B _ e];exact (M.raw i l n d).ext H fun r ⟨W,V,E⟩ => J i e l r (by unfold zpm; rw [V]; exact E) _
 ·by_cases e : i = j
  ·by_cases I : N = j
   ·rw [e,I]
   ·subst e
    rw [hold N I] at m;have z : D N = true:=(by simpa [zbN,I] using n);have:=y N Q z m;rw [ze1,zaC B _ I] at hB;omega
  ·rw [hold i e] at d
   have z : D i = true:=(by simpa [zbN,e] using s);have V:=y i l z d
   by_cases I : N = j
   ·subst I
    rw [ze1,zaC B _ e] at hB;omega
   ·rw [hold N I] at m
    rw [zaC B _ e,zaC B _ I] at hB;exact M.inj i N l Q z d (by simpa [zbN,I] using n) m hB
theorem zGB (C : Chk2 P κ nt gops ps xs ms p) (W : ∀ i x,xs[i]? = some x → step Cf (rr i) x = some (rr (i + 1))) (V : κ.Nodup) (J : ∀ t ∈ κ,t < nt) {D : Nat → Bool} {K j : Nat} {B : Nat → Nat} {g : G} {w : World} {a : Act} {o : Go.Oper} {x : Oper} {next : Act → World → Prop} {Q : Exit → Act → World → Prop} {r' : R}
  (M : Mid2 P gops xs κ nt p rr g0 w0 σ0 D K B g w a) (hj : j < p) (N : K < j) (he : eff xs j = true) (h : zBs x = true) (ho : gops[j]? = some o) (O : xs[j]? = some x)
  (F : Fr κ (zgo gops xs j) nt g w r' a) (S : ∀ y ∈ zfJ x,r'.get y = (rr j).get y)
  (k : ∀ g' w' u B',Mid2 P gops xs κ nt p rr g0 w0 σ0 (zbN D j) K B' g' w' (a.put o.dst u) → next (a.put o.dst u) w') : o.wp P a w next Q:=by
 obtain ⟨h1,h2,b⟩:=zjW h;obtain ⟨A,_,f,_⟩:=C.pre_some hj ho O
 obtain ⟨t,v⟩ : ∃ t,o.dst = some t:=by
  cases hd : o.dst with
  | some t => exact ⟨t,rfl⟩
  | none =>
    rw [hd] at A;rcases h2 with h2 | ⟨q,h2⟩ <;> rw [h2] at A <;> simp [okD] at A
 rcases b with ⟨zero,b⟩ | ⟨zero,n,b⟩
 ·have hs:=zHW h b (W j x O)
  rw [b] at f;simp only [zom] at f;split at f
  ·rename_i ty aC
   obtain ⟨Y,hz,r,_⟩:=znw f;obtain ⟨i,z,H,k2,k3⟩:=zdo hz;have aD : z.cells = Y.toArray:=(by rw [← k3]);obtain ⟨s,q2⟩:=zbg (g:=g) (w:=w) (σ:=[]) r;have hl : Y.length = zero.length:=zZ s
   obtain ⟨g',B',M'⟩:=zwI (sz:=zero.length) (es:=[zero]) (arr:=Y.toArray) (ty:=ty) (kd:=.ptr) C V J M hj N he h ho O v (by simp [hl]) (fun g w σ => by
    obtain ⟨d,E⟩:=zbg (g:=g) (w:=w) (σ:=σ) r
    exact zoT d E) rfl hs
   refine zou (u:=.pointer (some ⟨w.heap.size,0,none⟩)) (w':=w.alloc (.cells Y.toArray ty)) ?_ (k g' _ _ B' M');unfold execOp;simp only [aC];simp [Instr.alloc,zc8 (w:=w) H k2,newVar,newRow,aD]
  ·cases f
 ·obtain ⟨kk,m,hv,aB,aA,hs⟩:=zIc h b (W j x O)
  have aE:=S n (by rw [show zfJ x = opX x.op ++ _ from rfl,b]; simp [opX]);rw [b] at f;simp only [zom] at f;split at f
  ·rename_i t' l c aF
   simp only [yb,beq_iff_eq] at f;obtain ⟨⟨rfl,s⟩,q2⟩:=f;split at s
   ·rename_i e ht
    split at s
    ·rename_i i hi
     simp only [yb,decide_eq_true_eq] at s;obtain ⟨⟨h3,h4⟩,Z⟩:=s;split at Z
     ·rename_i Y hz
      simp only [yb,beq_iff_eq] at Z;obtain ⟨⟨h6,h7⟩,_⟩:=Z;obtain ⟨i',z,H,k2,k3⟩:=zdo hz;rw [hi] at H;injection H with H;subst H;subst k3;have r : z.cells.size = i.size:=by simpa using h6
      have X : zero.length = i.size:=by
       obtain ⟨d,_⟩:=zbg (g:=g) (w:=w) (σ:=[]) h7;rw [← zZ d];exact h6
      have U:=F.get q2;rw [aE,hv] at U;obtain ⟨ex,_⟩:=zaf U
      have I : (execOp a.eval o).run P w = .ok (.value (.slice (some ⟨w.heap.size,0,none⟩) m.toNat m.toNat)) (w.alloc (.cells (madeCells z.cells (m.toNat * i.size)).toList.toArray e)):=by
       unfold execOp;simp only [aF,ex,Sem.run_bind,zv1 (P:=P) (w:=w) ht hi k2 aB aA h3,Result.andThen_ok,Sem.run_pure]
      have L : ∀ g w σ,zeg g w σ (madeCells z.cells (m.toNat * i.size)).toList.toArray zero.length (yA m.toNat zero):=fun g w σ => by
       obtain ⟨d,E⟩:=zbg (g:=g) (w:=w) (σ:=σ) h7;have:=zn2 (g:=g) (w:=w) (σ:=σ) (es:=yA m.toNat zero) r h4 (fun e he => by rw [(List.mem_replicate.1 he).2]; exact d) E;rw [List.length_replicate] at this;rw [Array.toArray_toList,X];exact this
      obtain ⟨g',B',M'⟩:=zwI (sz:=zero.length) (es:=yA m.toNat zero) (arr:=(madeCells z.cells (m.toNat * i.size)).toList.toArray) (ty:=e) (kd:=.own m.toNat) C V J M hj N he h ho O v (by simp [size_madeCells,X]) L (by simp [Mk.ok]) hs;exact zou I (k g' _ _ B' M')
     ·cases Z
    ·cases s
   ·cases s
  ·cases f
end
end Go.A
