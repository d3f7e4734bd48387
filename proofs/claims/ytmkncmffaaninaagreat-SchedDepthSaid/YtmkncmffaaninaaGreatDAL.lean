/- A part of the proof of SchedDepth. Conditions: none. -/
import Derived.Test.YtmkncmffaaninaaGreatDAK
set_option linter.unusedVariables false
set_option linter.unusedSimpArgs false
set_option linter.unusedSectionVars false
open Option renaming map_eq_some_iff → ya,bind_eq_some_iff → yb,bind_some → yf,map_some → yg
open Bool renaming and_eq_true → yc,or_eq_true → ym
open List renaming getD_eq_getElem?_getD → yd,all_eq_true → ye,range → yh,getElem?_set_ne → yi,mem_cons → yj,getElem?_eq_getElem → yl,filterMap_cons → yn
open Array renaming getElem?_eq_some_iff → yk
open Nat renaming le_refl → yo
namespace Go.A
mutual
theorem exC : ∀ c : C,∃ n,∀ m,n ≤ m → c.lt m = true
 | .f _ => ⟨0,fun _ _ => by simp [C.lt]⟩
 | .ap t _ _ => ⟨t + 1,fun _ h => by simp [C.lt]; omega⟩
 | .ptr id _ _ _ => ⟨id + 1,fun _ h => by simp [C.lt]; omega⟩
 | .fp _ _ => ⟨0,fun _ _ => by simp [C.lt]⟩
 | .own id _ _ _ => ⟨id + 1,fun _ h => by simp [C.lt]; omega⟩
 | .map id => ⟨id + 1,fun _ h => by simp [C.lt]; omega⟩
 | .fn _ a b => by
   obtain ⟨n,h1⟩:=zE7 a
   obtain ⟨m,h2⟩:=zE7 b
   exact ⟨max n m,fun k hk => by simp only [C.lt,yc]; exact ⟨h1 k (by omega),h2 k (by omega)⟩⟩
 | .un => ⟨0,fun _ _ => by simp [C.lt]⟩
theorem zE7 : ∀ cs : List C,∃ n,∀ m,n ≤ m → C.lts m cs = true
 | [] => ⟨0,fun _ _ => rfl⟩
 | c :: cs => by
   obtain ⟨n,h1⟩:=exC c
   obtain ⟨m,h2⟩:=zE7 cs
   exact ⟨max n m,fun k hk => by simp only [C.lts,yc]; exact ⟨h1 k (by omega),h2 k (by omega)⟩⟩
end
mutual
theorem exV : ∀ c : V,∃ n,∀ m,n ≤ m → c.lt m = true
 | .one c => by
   obtain ⟨n,h⟩:=exC c
   exact ⟨n,fun m hm => by simp only [V.lt]; exact h m hm⟩
 | .agg cs => by
   obtain ⟨n,h⟩:=zE7 cs
   exact ⟨n,fun m hm => by simp only [V.lt]; exact h m hm⟩
 | .tup vs => by
   obtain ⟨n,h⟩:=zFP vs
   exact ⟨n,fun m hm => by simp only [V.lt]; exact h m hm⟩
theorem zFP : ∀ cs : List V,∃ n,∀ m,n ≤ m → V.lts m cs = true
 | [] => ⟨0,fun _ _ => rfl⟩
 | c :: cs => by
   obtain ⟨n,h1⟩:=exV c
   obtain ⟨m,h2⟩:=zFP cs
   exact ⟨max n m,fun k hk => by simp only [V.lts,yc]; exact ⟨h1 k (by omega),h2 k (by omega)⟩⟩
end
theorem exX (f : X → V) : ∀ xs : List X,∃ n,∀ m,n ≤ m → ∀ x ∈ xs,(f x).lt m = true
 | [] => ⟨0,fun _ _ x h => by simp at h⟩
 | x :: xs => by
   obtain ⟨n,h1⟩:=exV (f x)
   obtain ⟨m,h2⟩:=exX f xs
   refine ⟨max n m,fun k hk y hy => ?_⟩
   rcases yj.1 hy with rfl | hy
   ·exact h1 k (by omega)
   ·exact h2 k (by omega) y hy
section
variable {Cf : zad} {r r' r1 : R} {d : D}
def R.at (r : R) (σ : zd) : R:={ r with st:=σ }
def zB5 (c : Nat) (σ σ1 : zd) : Prop:=(c ≤ 2 → σ1 = σ) ∧ (c = 3 → σ1.length = σ.length ∧ ∀ n,SameRow n σ σ1 ∧ SameRow n σ1 σ) ∧ (c = 4 → ∃ os,σ1 = σ ++ os)
theorem zvP {op : Op} (hg : ∀ x ∈ opX op,r'.get x = r.get x) (hst : r'.st = r.st) (h : za7 Cf r d op = some r1) :
  ∃ v σ1,r1 = (r.at σ1).put d v ∧ za7 Cf r' d op = some ((r'.at σ1).put d v) ∧ zB5 (zaS op) r.st σ1:=by
 by_cases hq : zaS op ≤ 2
 ·
  obtain ⟨n,hn⟩:=exX r.get (opX op)
  obtain ⟨v,h1,h2⟩:=zmZ (n:=n) hq hg (hn n (yo _)) (fun _ => by rw [hst]; exact ⟨fun id ver sz o _ ho hr => ⟨o,ho,hr⟩⟩) (fun _ => by rw [hst]; exact ⟨fun id o _ ho => ho⟩) h
  refine ⟨v,r.st,h1,?_,fun _ => rfl,fun h => by omega,fun h => by omega⟩
  rw [h2,← hst]
  rfl
 ·have e4 : ∀ {os : List Ob},zaS op = 4 → zB5 (zaS op) r.st (r.st ++ os):=fun {os} hc => ⟨fun h => by omega,fun h => by omega,fun _ => ⟨os,rfl⟩⟩
  have e5 : ∀ {σ1 : zd},zaS op = 5 → zB5 (zaS op) r.st σ1:=fun {σ1} hc => ⟨fun h => by omega,fun h => by omega,fun h => by omega⟩
  have anl' : ∀ {b : B} {sz : Nat},b ≠ .fz → anl r d sz b = some r1 → ∃ v os,r1 = (r.at (r.st ++ os)).put d v ∧ anl r' d sz b = some ((r'.at (r.st ++ os)).put d v):=fun {b sz} hb hn => by
   cases b with
   | fz => exact absurd rfl hb
   | tk =>
     simp only [anl,Option.some.injEq] at hn ⊢
     exact ⟨_,_,hn.symm,by simp only [R.alloc,R.at,hst]⟩
   | rw =>
     simp only [anl,Option.some.injEq] at hn ⊢
     exact ⟨_,_,hn.symm,by simp only [R.alloc,R.at,hst]⟩
  cases op <;> simp only [za7] at h ⊢ <;> simp only [opX,yj,List.not_mem_nil,or_false,forall_eq_or_imp,forall_eq] at hg
  case st sz x v =>
   rw [hg.1,hg.2]
   rw [ya] at h
   obtain ⟨r2,h,rfl⟩:=h
   unfold ast at h ⊢
   split at h
   ·rename_i id ver i off heq
    split at h
    ·rename_i hl
     rw [if_pos hl]
     unfold R.write at h ⊢
     split at h
     ·rename_i hk
      rw [if_pos hk,hst]
      rw [ya] at h
      obtain ⟨ob,h1,rfl⟩:=h
      rw [h1]
      refine ⟨vun,r.st.set id ob,rfl,by simp only [yg,R.setOb,R.at,hst],fun h => by simp [zaS] at h,fun _ => ⟨by simp,fun n => ⟨⟨fun id' ver' sz' o _ ho hr => ?_⟩,⟨fun id' ver' sz' o _ ho hr => ?_⟩⟩⟩,fun h => by simp [zaS] at h⟩
      ·rw [yb] at h1
       obtain ⟨o0,h2,h3⟩:=h1
       by_cases e : id' = id
       ·subst e
        rw [h2] at ho
        injection ho with ho
        subst ho
        unfold Ob.write at h3
        split at h3
        ·split at h3
         ·rw [ya] at h3
          obtain ⟨e',_,rfl⟩:=h3
          exact ⟨_,zx h2,by simpa [Ob.isRow,upd] using hr⟩
         ·cases h3
        ·cases h3
       ·exact ⟨o,by rw [yi (Ne.symm e)]; exact ho,hr⟩
      ·rw [yb] at h1
       obtain ⟨o0,h2,h3⟩:=h1
       by_cases e : id' = id
       ·subst e
        rw [zx h2] at ho
        injection ho with ho
        subst ho
        refine ⟨o0,h2,?_⟩
        unfold Ob.write at h3
        split at h3
        ·split at h3
         ·rw [ya] at h3
          obtain ⟨e',_,rfl⟩:=h3
          simpa [Ob.isRow,upd] using hr
         ·cases h3
        ·cases h3
       ·exact ⟨o,by rw [yi (Ne.symm e)] at ho; exact ho,hr⟩
     ·cases h
    ·cases h
   ·cases h
  case al zero fresh =>
   injection h with h
   exact ⟨_,_,h.symm,by simp only [aal,R.allocs,R.at,hst],e4 rfl⟩
  case box sz x =>
   rw [hg]
   split at h
   ·rename_i hc
    injection h with h
    exact ⟨_,_,h.symm,by rw [if_pos hc]; simp only [R.alloc,R.at,hst],e4 rfl⟩
   ·cases h
  case mks zero fresh n =>
   rw [hg]
   unfold zDV at h ⊢
   split at h
   ·split at h
    ·rename_i hc
     injection h with h
     exact ⟨_,_,h.symm,by rw [if_pos hc]; simp only [R.alloc,R.at,hst],e4 rfl⟩
    ·cases h
   ·split at h
    ·rename_i hc
     injection h with h
     exact ⟨_,_,h.symm,by rw [if_pos hc]; simp only [R.allocs,R.at,hst],e4 rfl⟩
    ·cases h
   ·cases h
  case mkr zero j sz n =>
   rw [hg]
   unfold zEe at h ⊢
   split at h
   ·split at h
    ·rename_i hc
     injection h with h
     exact ⟨_,_,h.symm,by rw [if_pos hc]; simp only [R.allocs,R.at,hst],e4 rfl⟩
    ·cases h
   ·cases h
  case mkc sz n =>
   rw [hg]
   unfold zED at h ⊢
   split at h
   ·split at h
    ·rename_i hc
     injection h with h
     exact ⟨_,_,h.symm,by rw [if_pos hc]; simp only [R.alloc,R.at,hst],e4 rfl⟩
    ·cases h
   ·cases h
  case mkm =>
   injection h with h
   exact ⟨_,_,h.symm,by simp only [R.alloc,R.at,hst],e4 rfl⟩
  case nl b sz =>
   cases b
   case fz => simp [zaS] at hq
   case tk => obtain ⟨v,os,h1,h2⟩:=anl' (by simp) h; exact ⟨v,_,h1,h2,e4 rfl⟩
   case rw => obtain ⟨v,os,h1,h2⟩:=anl' (by simp) h; exact ⟨v,_,h1,h2,e4 rfl⟩
  case nlc b sz x =>
   rw [hg]
   split at h
   ·rename_i hc
    rw [if_pos hc]
    cases b
    case fz =>
     simp only [anl,Option.some.injEq] at h ⊢
     exact ⟨_,r.st,h.symm,by rw [← hst]; rfl,e5 rfl⟩
    case tk => obtain ⟨v,os,h1,h2⟩:=anl' (by simp) h; exact ⟨v,_,h1,h2,e5 rfl⟩
    case rw => obtain ⟨v,os,h1,h2⟩:=anl' (by simp) h; exact ⟨v,_,h1,h2,e5 rfl⟩
   ·cases h
  case bsl b sz zero parts =>
   rw [zlp (r:=r) (r':=r') hg]
   rw [yb] at h
   obtain ⟨es,h1,h2⟩:=h
   rw [h1]
   cases b
   case fz => simp [zaS] at hq
   case tk =>
    simp only [zvz,ya] at h2
    obtain ⟨xs,h2,rfl⟩:=h2
    exact ⟨_,_,rfl,by simp only [yf,zvz,h2,yg,zyh,R.alloc,R.at,hst],e4 rfl⟩
   case rw =>
    simp only [zvz,Option.some.injEq] at h2
    subst h2
    exact ⟨_,_,rfl,by simp only [yf,zvz,R.alloc,R.at,hst],e4 rfl⟩
  case bld zero parts fresh =>
   rw [zk9 (r:=r) (r':=r') hg,hst]
   rw [ya] at h
   obtain ⟨cs,h1,rfl⟩:=h
   rw [h1]
   refine ⟨.agg cs,r.st ++ tokens fresh,rfl,by simp only [yg,zDT,R.allocs,R.at,hst],e4 ?_⟩
   cases fresh with
   | nil => simp [zaS] at hq
   | cons j js => rfl
  case cpy sz s x =>
   rw [hg.1,hg.2,hst]
   rw [yb] at h
   obtain ⟨ys,h1,h2⟩:=h
   rw [h1]
   simp only [yf]
   split at h2
   ·rename_i hok
    rw [if_pos hok]
    unfold zEd at h2 ⊢
    split at h2
    ·split at h2
     ·cases h2
     ·rename_i hk
      simp only [if_neg hk]
      rw [yb] at h2
      obtain ⟨o,h3,h4⟩:=h2
      rw [hst,h3]
      simp only [yf]
      cases o with
      | tok _ _ => simp [zjp] at h4
      | mp _ => simp [zjp] at h4
      | cells ver' sz' es =>
        simp only [zjp] at h4 ⊢
        split at h4
        ·rename_i hc
         injection h4 with h4
         exact ⟨_,_,h4.symm,by rw [if_pos hc]; simp only [R.setOb,R.at,hst],e5 rfl⟩
        ·cases h4
    ·cases h2
   ·cases h2
  case app sz s x =>
   rw [hg.1,hg.2,hst]
   rw [yb] at h
   obtain ⟨ys,h1,h2⟩:=h
   rw [h1]
   simp only [yf]
   split at h2
   ·rename_i hok
    rw [if_pos hok]
    unfold zCH at h2 ⊢
    split at h2
    ·rw [yb] at h2
     obtain ⟨o,h3,h4⟩:=h2
     rw [hst,h3]
     simp only [yf]
     unfold zoE at h4 ⊢
     split at h4
     ·rename_i hc
      injection h4 with h4
      exact ⟨_,_,h4.symm,by rw [if_pos hc]; simp only [R.setOb,R.at,hst],e5 rfl⟩
     ·cases h4
    ·rw [yb] at h2
     obtain ⟨o,h3,h4⟩:=h2
     rw [hst,h3]
     simp only [yf]
     unfold zsq at h4 ⊢
     split at h4
     ·rename_i hc
      injection h4 with h4
      exact ⟨_,_,h4.symm,by rw [if_pos hc]; simp only [R.setOb,R.at,hst],e5 rfl⟩
     ·rename_i hc0
      split at h4
      ·rename_i hc
       injection h4 with h4
       exact ⟨_,_,h4.symm,by rw [if_neg hc0,if_pos hc]; simp only [R.at,← hst],e5 rfl⟩
      ·cases h4
    ·cases h2
   ·cases h2
  case stn sz x =>
   rw [hg]
   rw [ya] at h
   obtain ⟨r2,h,rfl⟩:=h
   unfold zEZ ast at h ⊢
   split at h
   ·split at h
    ·rename_i hl
     rw [hst,if_pos hl]
     unfold R.write at h ⊢
     simp only [R.alloc,hst] at h ⊢
     split at h
     ·rename_i hk
      rw [if_pos hk]
      rw [ya] at h
      obtain ⟨ob,h,rfl⟩:=h
      rw [h]
      exact ⟨_,_,rfl,by simp only [yg,R.setOb,R.at],e5 rfl⟩
     ·cases h
    ·cases h
   ·cases h
  case frz sz x =>
   rw [hg]
   unfold zEh at h ⊢
   split at h
   ·rw [yb] at h
    obtain ⟨o,h3,h4⟩:=h
    rw [hst,h3]
    simp only [yf]
    unfold zvC at h4 ⊢
    split at h4
    ·split at h4
     ·rename_i hc
      rw [if_pos hc]
      rw [ya] at h4
      obtain ⟨xs,h4,rfl⟩:=h4
      exact ⟨_,_,rfl,by rw [h4]; simp only [yg,zuP,R.setOb,R.at,hst],e5 rfl⟩
     ·cases h4
    ·cases h4
   ·cases h
  case mu m k v =>
   rw [hg.1,hg.2.1,hg.2.2]
   rw [ya] at h
   obtain ⟨r2,h,rfl⟩:=h
   unfold amu at h ⊢
   split at h
   ·rw [ya] at h
    obtain ⟨es,h1,rfl⟩:=h
    rw [hst,h1]
    exact ⟨vun,_,rfl,by simp only [yg,zEO,R.setOb,R.at,hst],e5 rfl⟩
   ·cases h
  case call m f args =>
   have e1:=hg.1
   have e2:=zib (r:=r) (r':=r') (ys:=args) hg.2
   rw [e1,e2]
   unfold znW at h ⊢
   split at h
   ·cases m
    case cl => simp [zaS] at hq
    case ck =>
     simp only at h ⊢
     split at h
     ·cases h
     ·rename_i hown
      rw [if_neg hown,hst]
      rw [ya] at h
      obtain ⟨x,h1,rfl⟩:=h
      rw [h1]
      exact ⟨_,_,rfl,by simp only [yg,zvd,R.at,hst],e5 rfl⟩
    case op =>
     simp only at h ⊢
     rw [hst]
     rw [ya] at h
     obtain ⟨x,h1,rfl⟩:=h
     rw [h1]
     exact ⟨_,_,rfl,by simp only [yg,zvF,R.at],e5 rfl⟩
   ·cases h
  all_goals first
   | (simp [zaS] at hq; done)
   | (cases h; done)
def zeN (x : Oper) : List X:=opX x.op ++ (match x.guard with
 | some (y,_) => [y]
 | none => [])
theorem zfK {x : Oper} {n : Nat} (hq : zaS x.op ≤ 2) (hg : ∀ y ∈ zeN x,r'.get y = r.get y) (hl : ∀ y ∈ zeN x,(r.get y).lt n = true) (h1 : zaS x.op = 1 → SameRow n r.st r'.st) (h2 : zaS x.op = 2 → Same n r.st r'.st) (h : step Cf r x = some r1) :
  ∃ v,r1 = r.put x.dst v ∧ step Cf r' x = some (r'.put x.dst v):=by
 obtain ⟨d,op,g⟩:=x
 cases g with
 | none => exact zmZ hq (fun y hy => hg y (by simp [zeN,hy])) (fun y hy => hl y (by simp [zeN,hy])) h1 h2 h
 | some p =>
   obtain ⟨y,b⟩:=p
   simp only [step] at h ⊢
   rw [hg y (by simp [zeN])]
   unfold znx at h ⊢
   split at h
   ·split at h
    ·rename_i hb
     rw [if_pos hb]
     exact zmZ hq (fun y hy => hg y (by simp [zeN,hy])) (fun y hy => hl y (by simp [zeN,hy])) h1 h2 h
    ·rename_i hb
     rw [if_neg hb]
     injection h with h
     exact ⟨.tup [],h.symm,rfl⟩
   ·injection h with h
    exact ⟨.tup [],h.symm,rfl⟩
   ·cases h
def zzD (c : Nat) (σ σ1 : zd) : Prop:=σ1 = σ ∨ zB5 c σ σ1
theorem zrk {x : Oper} (hg : ∀ y ∈ zeN x,r'.get y = r.get y) (hst : r'.st = r.st) (h : step Cf r x = some r1) :
  ∃ v σ1,r1 = (r.at σ1).put x.dst v ∧ step Cf r' x = some ((r'.at σ1).put x.dst v) ∧ zzD (zaS x.op) r.st σ1:=by
 obtain ⟨d,op,g⟩:=x
 cases g with
 | none =>
   obtain ⟨v,σ1,q1,q2,q3⟩:=zvP (fun y hy => hg y (by simp [zeN,hy])) hst h
   exact ⟨v,σ1,q1,q2,.inr q3⟩
 | some p =>
   obtain ⟨y,b⟩:=p
   simp only [step] at h ⊢
   rw [hg y (by simp [zeN])]
   unfold znx at h ⊢
   split at h
   ·split at h
    ·rename_i hb
     rw [if_pos hb]
     obtain ⟨v,σ1,q1,q2,q3⟩:=zvP (fun y hy => hg y (by simp [zeN,hy])) hst h
     exact ⟨v,σ1,q1,q2,.inr q3⟩
    ·rename_i hb
     rw [if_neg hb]
     injection h with h
     exact ⟨.tup [],r.st,h.symm,by rw [← hst]; rfl,.inl rfl⟩
   ·injection h with h
    exact ⟨.tup [],r.st,h.symm,by rw [← hst]; rfl,.inl rfl⟩
   ·cases h
theorem zEC (r : R) (d : D) (v : V) : ∃ y,(r.put d v).rs = y :: r.rs:=by cases d <;> exact ⟨_,rfl⟩
theorem zDd (r : R) (d : D) (v : V) : (r.put d v).env = match d with
 | .slot t => r.env.set t v
 | _ => r.env:=by cases d <;> rfl
end
end Go.A
namespace Go.A
def zqq (ms : List Nat) : List Nat → Nat → Nat
 | [],s => s
 | i :: es,s => zqq ms es (s ||| (2 ^ i ||| ms.getD i 0))
def zmn : List Go.Oper → List Nat → List Nat
 | [],acc => acc
 | o :: os,acc => zmn os (acc ++ [zqq acc (zwU o) 0])
def zih (gops : Array Go.Oper) (ms : List Nat) : Bool :=
 (yh gops.size).all fun j => (ms.getD j 0 == zqq ms (zas gops j) 0) && (zas gops j).all fun i => decide (i < j)
def bit (ms : List Nat) (j i : Nat) : Bool:=(ms.getD j 0).testBit i
theorem zqY {ms : List Nat} {i : Nat} : ∀ {es : List Nat} {s : Nat},(zqq ms es s).testBit i = true → s.testBit i = true ∨ ∃ e ∈ es,e = i ∨ bit ms e i = true
 | [],s,h => .inl h
 | e :: es,s,h => by
   simp only [zqq] at h
   rcases zqY h with h | ⟨e',he',h⟩
   ·simp only [Nat.testBit_or,ym,Nat.testBit_two_pow,decide_eq_true_eq] at h
    rcases h with h | h | h
    ·exact .inl h
    ·exact .inr ⟨e,by simp,.inl h⟩
    ·exact .inr ⟨e,by simp,.inr h⟩
   ·exact .inr ⟨e',by simp [he'],h⟩
theorem zkj {gops : Array Go.Oper} {ms : List Nat} (h : zih gops ms = true) {j : Nat} (hj : j < gops.size) : ms.getD j 0 = zqq ms (zas gops j) 0 ∧ ∀ i ∈ zas gops j,i < j:=by
 unfold zih at h
 have:=ye.1 h j (by simpa using hj)
 simp only [yc,beq_iff_eq] at this
 exact ⟨this.1,fun i hi => by simpa using ye.1 this.2 i hi⟩
theorem zeR {gops : Array Go.Oper} {ms : List Nat} (h : zih gops ms = true) {i : Nat} : ∀ (j : Nat),j < gops.size → bit ms j i = true → Reach gops j i:=by
 intro j
 induction j using Nat.strongRecOn with
 | _ j ih =>
   intro hj hb
   obtain ⟨h1,h2⟩:=zkj h hj
   unfold bit at hb
   rw [h1] at hb
   rcases zqY hb with hb | ⟨e,he,hb⟩
   ·simp at hb
   ·rcases hb with rfl | hb
    ·exact .edge he
    ·exact .more he (ih e (h2 e he) (by have:=h2 e he; omega) hb)
def free (c c' : Nat) : Bool:=c == 0 || c' == 0 || (decide (c ≤ 2) && decide (c' ≤ 2)) || (c == 1 && c' == 3) || (c == 3 && c' == 1) || (decide (c ≤ 2) && c' == 4) || (c == 4 && decide (c' ≤ 2))
def writes : Oper → Option Nat
 | ⟨.slot q,_,_⟩ => some q
 | _ => none
def zfv (q : Nat) (x : Oper) : Bool:=(zeN x).any fun
 | .s q' => q' == q
 | _ => false
def zgh (x y : Oper) : Bool :=
 (match writes x with
  | some q => !zfv q y && (match writes y with
    | some q' => q' != q
    | none => true)
  | none => true) &&
 (match writes y with
  | some q => !zfv q x
  | none => true)
def cls (xs : List Oper) (j : Nat) : Nat:=match xs[j]? with
 | some x => zaS x.op
 | none => 0
def zwI (loc : List (Option Tmp)) : X → Bool
 | .l d => match loc[d]? with
   | some (some t) => (loc.take d).all (· != some t)
   | _ => false
 | .s _ => true
 | .c v => v.lt 0
def zuS (ms : List Nat) (xs : List Oper) (i j : Nat) : Bool:=match xs[i]?,xs[j]? with
 | some x,some y => ((free (zaS x.op) (zaS y.op) && zgh x y) || bit ms j i) && (match writes x,writes y with
   | some q,some q' => q != q'
   | _,_ => true)
 | _,_ => false
def zvj (P : Program) (κ : List Tmp) (nt : Nat) (gops : Array Go.Oper) (xs : List Oper) (ms : List Nat) (j : Nat) : Bool:=match gops[j]?,xs[j]? with
 | some o,some x => okD κ nt o.dst x.dst && zfM κ (zfi gops xs j) gops o.guard x.guard && zmf P κ (zfi gops xs j) o x.dst x.op && (zeN x).all (zwI (zfi gops xs j)) && (yh j).all fun i => zuS ms xs i j
 | _,_ => false
def ziL (P : Program) (κ : List Tmp) (nt : Nat) (gops : Array Go.Oper) (xs : List Oper) (ms : List Nat) (j : Nat) : Bool:=match gops[j]?,xs[j]? with
 | some o,some x => okD κ nt o.dst x.dst && zfM κ (zhJ gops xs j) gops o.guard x.guard && zmf P κ (zhJ gops xs j) o x.dst x.op && (yh j).all fun i => bit ms j i
 | _,_ => false
def zn0 (ms : List Nat) : Nat → Nat
 | 0 => 0
 | n + 1 => if (yh n).all (fun i => bit ms n i) then zn0 ms n else n + 1
def zDS (gops : Array Go.Oper) (xs : List Oper) (p : Nat) : List Tmp:=(yh p).filterMap (lo gops xs)
def zq6 (P : Program) : List Tmp → Nat → Array Go.Oper → List Oper → Bool:=fun κ nt gops xs =>
 let ms:=zmn gops.toList []
 let p:=zn0 ms gops.size
 zih gops ms && xs.length == gops.size && decide (p ≤ gops.size) && zjl (zDS gops xs p) && (yh p).all (zvj P κ nt gops xs ms) && (yh gops.size).all fun j => decide (j < p) || ziL P κ nt gops xs ms j
section
variable {P : Program} {κ : List Tmp} {nt : Nat} {gops : Array Go.Oper} {xs : List Oper} {ms : List Nat} {p : Nat}
theorem zkf : ∀ {l : List Nat},zjl (l.filterMap (lo gops xs)) = true → l.Nodup → ∀ i ∈ l,∀ j ∈ l,∀ t,lo gops xs i = some t → lo gops xs j = some t → i = j
 | [],_,_,i,hi,_,_,_,_,_ => by simp at hi
 | x :: l,h,hn,i,hi,j,hj,t,h1,h2 => by
   rw [List.nodup_cons] at hn
   have tailN : zjl (l.filterMap (lo gops xs)) = true:=by
    rw [yn] at h
    split at h
    ·exact h
    ·simp only [zjl,yc] at h; exact h.2
   have clash : ∀ k ∈ l,∀ t,lo gops xs x = some t → lo gops xs k = some t → False:=fun k hk t hx hk' => by
    rw [yn,hx] at h
    simp only [zjl,yc,Bool.not_eq_true'] at h
    have : t ∈ l.filterMap (lo gops xs):=List.mem_filterMap.2 ⟨k,hk,hk'⟩
    simp [this] at h
   rcases yj.1 hi with e1 | hi'
   ·rcases yj.1 hj with e2 | hj'
    ·rw [e1,e2]
    ·exact (clash j hj' t (by rw [← e1]; exact h1) h2).elim
   ·rcases yj.1 hj with e2 | hj'
    ·exact (clash i hi' t (by rw [← e2]; exact h2) h1).elim
    ·exact zkf tailN hn.2 i hi' j hj' t h1 h2
theorem zli {j : Nat} (h : zvj P κ nt gops xs ms j = true) {o : Go.Oper} {x : Oper} (ho : gops[j]? = some o) (hx : xs[j]? = some x) :
  okD κ nt o.dst x.dst = true ∧ zfM κ (zfi gops xs j) gops o.guard x.guard = true ∧ zmf P κ (zfi gops xs j) o x.dst x.op = true ∧ (∀ y ∈ zeN x,zwI (zfi gops xs j) y = true) ∧ ∀ i,i < j → zuS ms xs i j = true:=by
 unfold zvj at h
 rw [ho,hx] at h
 simp only [yc] at h
 obtain ⟨⟨⟨⟨h1,h2⟩,h3⟩,h4⟩,h5⟩:=h
 exact ⟨h1,h2,h3,fun y hy => ye.1 h4 y hy,fun i hi => ye.1 h5 i (by simpa using hi)⟩
structure Chk (P : Program) (κ : List Tmp) (nt : Nat) (gops : Array Go.Oper) (xs : List Oper) (ms : List Nat) (p : Nat) : Prop where
 masks : zih gops ms = true
 len : xs.length = gops.size
 p_le : p ≤ gops.size
 dup : zjl (zDS gops xs p) = true
 pre : ∀ j,j < p → zvj P κ nt gops xs ms j = true
 tail : ∀ j,p ≤ j → j < gops.size → ziL P κ nt gops xs ms j = true
theorem zD0 (h : zq6 P κ nt gops xs = true) : ∃ ms p,Chk P κ nt gops xs ms p:=by
 unfold zq6 at h
 simp only [yc,beq_iff_eq,decide_eq_true_eq] at h
 obtain ⟨⟨⟨⟨⟨h1,h2⟩,h3⟩,h4⟩,h5⟩,h6⟩:=h
 refine ⟨_,_,h1,h2,h3,h4,fun j hj => ye.1 h5 j (by simpa using hj),fun j hj hlt => ?_⟩
 have:=ye.1 h6 j (by simpa using hlt)
 simp only [ym,decide_eq_true_eq] at this
 rcases this with h | h
 ·omega
 ·exact h
theorem Chk.plan (C : Chk P κ nt gops xs ms p) : Plan P κ nt gops xs p where
 len:=C.len
 p_le:=C.p_le
 back:=fun j o ho i hi => by
  have hj : j < gops.size:=(yk.1 ho).1
  exact (zkj C.masks hj).2 i (by unfold zas; rw [ho]; exact hi)
 pre:=fun j o x hj ho hx => (zli (C.pre j hj) ho hx).1
 apart:=fun i j t hi hj h1 h2 => zkf C.dup List.nodup_range i (by simpa using hi) j (by simpa using hj) t h1 h2
 tail:=fun j o x hj ho hx => by
  have hlt : j < gops.size:=(yk.1 ho).1
  have h:=C.tail j hj hlt
  unfold ziL at h
  rw [ho,hx] at h
  simp only [yc] at h
  obtain ⟨⟨⟨h1,h2⟩,h3⟩,h4⟩:=h
  exact ⟨h1,h2,h3,fun i hi => zeR C.masks j hlt (ye.1 h4 i (by simpa using hi))⟩
theorem Chk.pair (C : Chk P κ nt gops xs ms p) {i j : Nat} (hij : i < j) (hj : j < p) {x y : Oper} (hx : xs[i]? = some x) (hy : xs[j]? = some y) :
  ((free (zaS x.op) (zaS y.op) = true ∧ zgh x y = true) ∨ Reach gops j i) ∧ ∀ q,writes x = some q → writes y ≠ some q:=by
 have hlt : j < gops.size:=Nat.lt_of_lt_of_le hj C.p_le
 have h:=(zli (C.pre j hj) (Array.getElem?_eq_getElem hlt) hy).2.2.2.2 i hij
 unfold zuS at h
 rw [hx,hy] at h
 simp only [yc,ym] at h
 obtain ⟨h1,h2⟩:=h
 refine ⟨h1.imp id fun h => zeR C.masks j hlt h,fun q hq hq' => ?_⟩
 rw [hq,hq'] at h2
 simp at h2
variable {Cf : zad} {rr : Nat → R}
def za8 (rr : Nat → R) (j : Nat) : V:=(rr (j + 1)).rs.headD vun
theorem zmr (hrr : ∀ i x,xs[i]? = some x → step Cf (rr i) x = some (rr (i + 1))) {j : Nat} {x : Oper} (hx : xs[j]? = some x) :
  ∃ v σ1,rr (j + 1) = ((rr j).at σ1).put x.dst v ∧ zzD (zaS x.op) (rr j).st σ1:=by
 obtain ⟨v,σ1,h1,_,h3⟩:=zrk (r':=rr j) (fun _ _ => rfl) rfl (hrr j x hx)
 exact ⟨v,σ1,h1,h3⟩
theorem znh (hrr : ∀ i x,xs[i]? = some x → step Cf (rr i) x = some (rr (i + 1))) (h0 : (rr 0).rs = []) : ∀ j,j ≤ xs.length → (rr j).rs = (yh j).reverse.map (za8 rr)
 | 0,_ => by simpa using h0
 | j + 1,hj => by
   have ih:=znh hrr h0 j (by omega)
   obtain ⟨v,σ1,h1,_⟩:=zmr hrr (yl (by omega : j < xs.length))
   obtain ⟨y,hy⟩:=zEC ((rr j).at σ1) xs[j].dst v
   rw [List.range_succ,List.reverse_append]
   simp only [List.reverse_cons,List.reverse_nil,List.nil_append,List.map_append,List.map_cons,List.map_nil,List.singleton_append]
   have e : (rr (j + 1)).rs = y :: (rr j).rs:=by rw [h1]; exact hy
   have e2 : za8 rr j = y:=by unfold za8; rw [e]; rfl
   rw [e,e2,ih]
def wr (xs : List Oper) (p q : Nat) : Option Nat:=(yh p).find? fun k => match xs[k]? with
 | some x => writes x == some q
 | none => false
theorem zgb {q k : Nat} (h : wr xs p q = some k) : k < p ∧ ∃ x,xs[k]? = some x ∧ writes x = some q:=by
 unfold wr at h
 have h1:=List.find?_some h
 have h2:=List.mem_of_find?_eq_some h
 refine ⟨by simpa using h2,?_⟩
 split at h1
 ·rename_i x hx; exact ⟨x,hx,by simpa using h1⟩
 ·cases h1
structure ChkW (xs : List Oper) (p : Nat) : Prop where
 le : p ≤ xs.length
 ww : ∀ {i j : Nat},i < j → j < p → ∀ {x y : Oper},xs[i]? = some x → xs[j]? = some y → ∀ q,writes x = some q → writes y ≠ some q
theorem Chk.w (C : Chk P κ nt gops xs ms p) : ChkW xs p:=⟨by rw [C.len]; exact C.p_le,fun hij hj _ _ hx hy => (C.pair hij hj hx hy).2⟩
theorem zCj (C : ChkW xs p) {q k : Nat} {x : Oper} (hk : k < p) (hx : xs[k]? = some x) (hw : writes x = some q) : wr xs p q = some k:=by
 cases h : wr xs p q with
 | none =>
   unfold wr at h
   rw [List.find?_eq_none] at h
   have:=h k (by simpa using hk)
   rw [hx] at this
   simp [hw] at this
 | some k' =>
   obtain ⟨h1,x',h2,h3⟩:=zgb h
   rcases Nat.lt_trichotomy k k' with hlt | rfl | hlt
   ·exact absurd h3 (C.ww hlt h1 hx h2 q hw)
   ·rfl
   ·exact absurd hw (C.ww hlt hk h2 hx q h3)
def zgU (rr : Nat → R) (xs : List Oper) (p : Nat) (D : Nat → Bool) (q : Nat) : V:=match wr xs p q with
 | some k => if D k then (rr (k + 1)).env.getD q vun else (rr 0).env.getD q vun
 | none => (rr 0).env.getD q vun
def zdP (rr : Nat → R) (xs : List Oper) (p : Nat) (D : Nat → Bool) : List V:=(yh (rr 0).env.length).map (zgU rr xs p D)
theorem zgk (C : ChkW xs p) (hrr : ∀ i x,xs[i]? = some x → step Cf (rr i) x = some (rr (i + 1))) : ∀ j,j ≤ p → (rr j).env.length = (rr 0).env.length ∧ ∀ q,(rr j).env.getD q vun = zgU rr xs p (fun k => decide (k < j)) q
 | 0,_ => ⟨rfl,fun q => by
   unfold zgU
   split <;> simp⟩
 | j + 1,hj => by
   obtain ⟨ih1,ih2⟩:=zgk C hrr j (by omega)
   have hlt : j < xs.length:=by have:=C.le; omega
   have hx : xs[j]? = some xs[j]:=yl hlt
   obtain ⟨v,σ1,h1,_⟩:=zmr hrr hx
   have henv:=zDd ((rr j).at σ1) xs[j].dst v
   rw [← h1] at henv
   refine ⟨?_,fun q => ?_⟩
   ·rw [henv]
    split
    ·simp [R.at,ih1]
    ·exact ih1
   ·by_cases hw : writes xs[j] = some q
    ·have hwr:=zCj C (by omega : j < p) hx hw
     unfold zgU
     rw [hwr]
     simp
    ·have hkeep : (rr (j + 1)).env.getD q vun = (rr j).env.getD q vun:=by
      rw [henv]
      split
      ·rename_i t ht
       have hne : t ≠ q:=fun e => hw (by
        subst e
        have : xs[j] = ⟨.slot t,xs[j].op,xs[j].guard⟩:=by
         cases hxx : xs[j] with
         | mk d op g => rw [hxx] at ht; simp only at ht; rw [ht]
        rw [this]; rfl)
       simp only [yd,yi hne,R.at]
      ·rfl
     rw [hkeep,ih2]
     unfold zgU
     split
     ·rename_i k hk
      obtain ⟨q1,x',q2,q3⟩:=zgb hk
      have hne : k ≠ j:=fun e => by subst e; rw [hx] at q2; injection q2 with q2; rw [← q2] at q3; exact hw q3
      by_cases hkj : k < j
      ·simp only [decide_eq_true_eq,if_pos hkj,if_pos (by omega : k < j + 1)]
      ·simp only [decide_eq_true_eq,if_neg hkj,if_neg (by omega : ¬ k < j + 1)]
     ·rfl
theorem zgC {D : Nat → Bool} {q : Nat} (C : ChkW xs p) (hrr : ∀ i x,xs[i]? = some x → step Cf (rr i) x = some (rr (i + 1))) : (zdP rr xs p D).getD q vun = zgU rr xs p D q:=by
 unfold zdP
 by_cases hq : q < (rr 0).env.length
 ·simp [yd,hq]
 ·have e0 : (rr 0).env.getD q vun = vun:=by simp [yd,hq]
  have e1 : ((yh (rr 0).env.length).map (zgU rr xs p D)).getD q vun = vun:=by simp [yd,hq]
  rw [e1]
  unfold zgU
  split
  ·rename_i k hk
   obtain ⟨q1,_⟩:=zgb hk
   have hl:=(zgk C hrr (k + 1) (by omega)).1
   split
   ·simp [yd,hl,hq]
   ·exact e0.symm
  ·exact e0.symm
def zeG (xs : List Oper) (D : Nat → Bool) : Nat → Nat
 | 0 => 0
 | n + 1 => if D n && decide (3 ≤ cls xs n) then n + 1 else zeG xs D n
def zpH (rr : Nat → R) (xs : List Oper) (p : Nat) (D : Nat → Bool) : zd:=(rr (zeG xs D p)).st
theorem zod (D : Nat → Bool) : ∀ n,zeG xs D n ≤ n
 | 0 => yo _
 | n + 1 => by
   have:=zod D n
   simp only [zeG]
   split <;> omega
theorem zob (D : Nat → Bool) : ∀ n,zeG xs D n = 0 ∨ ∃ k,zeG xs D n = k + 1 ∧ D k = true ∧ 3 ≤ cls xs k
 | 0 => .inl rfl
 | n + 1 => by
   simp only [zeG]
   split
   ·rename_i h
    simp only [yc,decide_eq_true_eq] at h
    exact .inr ⟨n,rfl,h⟩
   ·exact zob D n
theorem zgR (D : Nat → Bool) : ∀ n k,zeG xs D n ≤ k → k < n → ¬ (D k = true ∧ 3 ≤ cls xs k)
 | 0,k,_,h => by omega
 | n + 1,k,h1,h2 => by
   simp only [zeG] at h1
   split at h1
   ·omega
   ·rename_i h
    rcases Nat.lt_or_ge k n with hk | hk
    ·exact zgR D n k h1 hk
    ·have : k = n:=by omega
     subst this
     intro ⟨a,b⟩
     exact h (by simp [a,b])
end
end Go.A
