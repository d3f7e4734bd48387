/- A part of the proof of SchedDepth. Conditions: none. -/
import Derived.Test.YtmkncmffaaninaaGreatPAD
set_option linter.unusedVariables false
set_option linter.unusedSimpArgs false
set_option linter.unusedSectionVars false
open List renaming getElem?_eq_getElem → ya,getD_eq_getElem?_getD → yc,getElem?_append_left → yd,range → ye,all_eq_true → yf,getElem?_eq_none → yj,mem_of_getElem? → yq,getElem?_set_ne → yw,mem_cons → yy,ext_getElem? → yB,getElem?_map → yC,replicate → yE,length_filter_le → yF,filterMap_cons → yH,getElem?_range → yI,map_congr_left → yJ,nodup_range → yO,any_eq_true → yP,nodup_cons → yS,range_succ → yT
open Bool renaming and_eq_true → yb,or_eq_true → yl,not_eq_true' → yp,and_eq_false_iff → yG,not_eq_false' → yL,not_eq_false → yN,not_eq_true → yQ
open Option renaming map_eq_some_iff → yg,bind_eq_some_iff → yh,bind_some → yo,map_some → yt
open Array renaming getElem?_eq_some_iff → yi,getElem?_eq_getElem → ym,replicate → yr,getD_eq_getD_getElem? → yx,getElem?_replicate → yD
open Nat renaming le_refl → yk,lt_of_lt_of_le → yn,lt_or_ge → yu,lt_trichotomy → yv,le_of_lt → yz,add_assoc → yA,lt_or_gt_of_ne → yK,le_trans → yM,zero_le → yR
namespace Go.A
mutual
theorem exC : ∀ c : C,∃ n,∀ m,n ≤ m → c.lt m = true
 | .f _ => ⟨0,fun _ _ => by simp [C.lt]⟩
 | .ap t _ _ => ⟨t + 1,fun _ h => by simp [C.lt]; omega⟩
 | .ptr id _ _ _ => ⟨id + 1,fun _ h => by simp [C.lt]; omega⟩
 | .fp _ _ => ⟨0,fun _ _ => by simp [C.lt]⟩
 | .own id _ _ _ => ⟨id + 1,fun _ h => by simp [C.lt]; omega⟩
 | .map id => ⟨id + 1,fun _ h => by simp [C.lt]; omega⟩
 | .fn _ a b => by
   obtain ⟨n,h1⟩:=zEV a
   obtain ⟨m,h2⟩:=zEV b
   exact ⟨max n m,fun k hk => by simp only [C.lt,yb]; exact ⟨h1 k (by omega),h2 k (by omega)⟩⟩
 | .un => ⟨0,fun _ _ => by simp [C.lt]⟩
theorem zEV : ∀ cs : List C,∃ n,∀ m,n ≤ m → C.lts m cs = true
 | [] => ⟨0,fun _ _ => rfl⟩
 | c :: cs => by
   obtain ⟨n,h1⟩:=exC c
   obtain ⟨m,h2⟩:=zEV cs
   exact ⟨max n m,fun k hk => by simp only [C.lts,yb]; exact ⟨h1 k (by omega),h2 k (by omega)⟩⟩
end
mutual
theorem exV : ∀ c : V,∃ n,∀ m,n ≤ m → c.lt m = true
 | .one c => by
   obtain ⟨n,h⟩:=exC c
   exact ⟨n,fun m hm => by simp only [V.lt]; exact h m hm⟩
 | .agg cs => by
   obtain ⟨n,h⟩:=zEV cs
   exact ⟨n,fun m hm => by simp only [V.lt]; exact h m hm⟩
 | .tup vs => by
   obtain ⟨n,h⟩:=zFQ vs
   exact ⟨n,fun m hm => by simp only [V.lt]; exact h m hm⟩
theorem zFQ : ∀ cs : List V,∃ n,∀ m,n ≤ m → V.lts m cs = true
 | [] => ⟨0,fun _ _ => rfl⟩
 | c :: cs => by
   obtain ⟨n,h1⟩:=exV c
   obtain ⟨m,h2⟩:=zFQ cs
   exact ⟨max n m,fun k hk => by simp only [V.lts,yb]; exact ⟨h1 k (by omega),h2 k (by omega)⟩⟩
end
theorem exX (f : X → V) : ∀ xs : List X,∃ n,∀ m,n ≤ m → ∀ x ∈ xs,(f x).lt m = true
 | [] => ⟨0,fun _ _ x h => by simp at h⟩
 | x :: xs => by
   obtain ⟨n,h1⟩:=exV (f x)
   obtain ⟨m,h2⟩:=exX f xs
   refine ⟨max n m,fun k hk y hy => ?_⟩
   rcases yy.1 hy with rfl | hy
   ·exact h1 k (by omega)
   ·exact h2 k (by omega) y hy
section
variable {Cf : zad} {r r' r1 : R} {d : D}
def R.at (r : R) (σ : zd) : R:={ r with st:=σ }
def zBr (c : Nat) (σ σ1 : zd) : Prop:=(c ≤ 2 → σ1 = σ) ∧ (c = 3 → σ1.length = σ.length ∧ ∀ n,SameRow n σ σ1 ∧ SameRow n σ1 σ) ∧ (c = 4 → ∃ os,σ1 = σ ++ os)
theorem zvW {op : Op} (hg : ∀ x ∈ opX op,r'.get x = r.get x) (hst : r'.st = r.st) (h : za5 Cf r d op = some r1) :
  ∃ v σ1,r1 = (r.at σ1).put d v ∧ za5 Cf r' d op = some ((r'.at σ1).put d v) ∧ zBr (zaR op) r.st σ1:=by
 by_cases hq : zaR op ≤ 2
 ·
  obtain ⟨n,hn⟩:=exX r.get (opX op)
  obtain ⟨v,h1,h2⟩:=znc (n:=n) hq hg (hn n (yk _)) (fun _ => by rw [hst]; exact ⟨fun id ver sz o _ ho hr => ⟨o,ho,hr⟩⟩) (fun _ => by rw [hst]; exact ⟨fun id o _ ho => ho⟩) h
  refine ⟨v,r.st,h1,?_,fun _ => rfl,fun h => by omega,fun h => by omega⟩
  rw [h2,← hst]
  rfl
 ·have e4 : ∀ {os : List Ob},zaR op = 4 → zBr (zaR op) r.st (r.st ++ os):=fun {os} hc => ⟨fun h => by omega,fun h => by omega,fun _ => ⟨os,rfl⟩⟩
  have e5 : ∀ {σ1 : zd},zaR op = 5 → zBr (zaR op) r.st σ1:=fun {σ1} hc => ⟨fun h => by omega,fun h => by omega,fun h => by omega⟩
  have anl' : ∀ {b : B} {sz : Nat},b ≠ .fz → anl r d sz b = some r1 → ∃ v os,r1 = (r.at (r.st ++ os)).put d v ∧ anl r' d sz b = some ((r'.at (r.st ++ os)).put d v):=fun {b sz} hb hn => by
   cases b with
   | fz => exact absurd rfl hb
   | tk =>
     simp only [anl,Option.some.injEq] at hn ⊢
     exact ⟨_,_,hn.symm,by simp only [R.alloc,R.at,hst]⟩
   | rw =>
     simp only [anl,Option.some.injEq] at hn ⊢
     exact ⟨_,_,hn.symm,by simp only [R.alloc,R.at,hst]⟩
  cases op <;> simp only [za5] at h ⊢ <;> simp only [opX,yy,List.not_mem_nil,or_false,forall_eq_or_imp,forall_eq] at hg
  case st sz x v =>
   rw [hg.1,hg.2]
   rw [yg] at h
   obtain ⟨r2,h,rfl⟩:=h
   unfold ast at h ⊢
   split at h
   ·rename_i id ver i off heq
    split at h
    ·rename_i hl
     rw [if_pos hl]
     unfold R.write at h ⊢
     split at h
     ·rename_i hk
      rw [if_pos hk,hst]
      rw [yg] at h
      obtain ⟨ob,h1,rfl⟩:=h
      rw [h1]
      refine ⟨vun,r.st.set id ob,rfl,by simp only [yt,R.setOb,R.at,hst],fun h => by simp [zaR] at h,fun _ => ⟨by simp,fun n => ⟨⟨fun id' ver' sz' o _ ho hr => ?_⟩,⟨fun id' ver' sz' o _ ho hr => ?_⟩⟩⟩,fun h => by simp [zaR] at h⟩
      ·rw [yh] at h1
       obtain ⟨o0,h2,h3⟩:=h1
       by_cases e : id' = id
       ·subst e
        rw [h2] at ho
        injection ho with ho
        subst ho
        unfold Ob.write at h3
        split at h3
        ·split at h3
         ·rw [yg] at h3
          obtain ⟨e',_,rfl⟩:=h3
          exact ⟨_,zy h2,by simpa [Ob.isRow,upd] using hr⟩
         ·cases h3
        ·cases h3
       ·exact ⟨o,by rw [yw (Ne.symm e)]; exact ho,hr⟩
      ·rw [yh] at h1
       obtain ⟨o0,h2,h3⟩:=h1
       by_cases e : id' = id
       ·subst e
        rw [zy h2] at ho
        injection ho with ho
        subst ho
        refine ⟨o0,h2,?_⟩
        unfold Ob.write at h3
        split at h3
        ·split at h3
         ·rw [yg] at h3
          obtain ⟨e',_,rfl⟩:=h3
          simpa [Ob.isRow,upd] using hr
         ·cases h3
        ·cases h3
       ·exact ⟨o,by rw [yw (Ne.symm e)] at ho; exact ho,hr⟩
     ·cases h
    ·cases h
   ·cases h
  case al zero fresh =>
   injection h with h
   exact ⟨_,_,h.symm,by simp only [aal,R.allocs,R.at,hst],e4 rfl⟩
  case box sz x =>
   rw [hg]
   split at h
   ·rename_i hc
    injection h with h
    exact ⟨_,_,h.symm,by rw [if_pos hc]; simp only [R.alloc,R.at,hst],e4 rfl⟩
   ·cases h
  case mks zero fresh n =>
   rw [hg]
   unfold zDU at h ⊢
   split at h
   ·split at h
    ·rename_i hc
     injection h with h
     exact ⟨_,_,h.symm,by rw [if_pos hc]; simp only [R.alloc,R.at,hst],e4 rfl⟩
    ·cases h
   ·split at h
    ·rename_i hc
     injection h with h
     exact ⟨_,_,h.symm,by rw [if_pos hc]; simp only [R.allocs,R.at,hst],e4 rfl⟩
    ·cases h
   ·cases h
  case mkr zero j sz n =>
   rw [hg]
   unfold zEs at h ⊢
   split at h
   ·split at h
    ·rename_i hc
     injection h with h
     exact ⟨_,_,h.symm,by rw [if_pos hc]; simp only [R.allocs,R.at,hst],e4 rfl⟩
    ·cases h
   ·cases h
  case mkc sz n =>
   rw [hg]
   unfold zEc at h ⊢
   split at h
   ·split at h
    ·rename_i hc
     injection h with h
     exact ⟨_,_,h.symm,by rw [if_pos hc]; simp only [R.alloc,R.at,hst],e4 rfl⟩
    ·cases h
   ·cases h
  case mkm =>
   injection h with h
   exact ⟨_,_,h.symm,by simp only [R.alloc,R.at,hst],e4 rfl⟩
  case nl b sz =>
   cases b
   case fz => simp [zaR] at hq
   case tk => obtain ⟨v,os,h1,h2⟩:=anl' (by simp) h; exact ⟨v,_,h1,h2,e4 rfl⟩
   case rw => obtain ⟨v,os,h1,h2⟩:=anl' (by simp) h; exact ⟨v,_,h1,h2,e4 rfl⟩
  case nlc b sz x =>
   rw [hg]
   split at h
   ·rename_i hc
    rw [if_pos hc]
    cases b
    case fz =>
     simp only [anl,Option.some.injEq] at h ⊢
     exact ⟨_,r.st,h.symm,by rw [← hst]; rfl,e5 rfl⟩
    case tk => obtain ⟨v,os,h1,h2⟩:=anl' (by simp) h; exact ⟨v,_,h1,h2,e5 rfl⟩
    case rw => obtain ⟨v,os,h1,h2⟩:=anl' (by simp) h; exact ⟨v,_,h1,h2,e5 rfl⟩
   ·cases h
  case bsl b sz zero parts =>
   rw [zkS (r:=r) (r':=r') hg]
   rw [yh] at h
   obtain ⟨es,h1,h2⟩:=h
   rw [h1]
   cases b
   case fz => simp [zaR] at hq
   case tk =>
    simp only [zv3,yg] at h2
    obtain ⟨xs,h2,rfl⟩:=h2
    exact ⟨_,_,rfl,by simp only [yo,zv3,h2,yt,zyY,R.alloc,R.at,hst],e4 rfl⟩
   case rw =>
    simp only [zv3,Option.some.injEq] at h2
    subst h2
    exact ⟨_,_,rfl,by simp only [yo,zv3,R.alloc,R.at,hst],e4 rfl⟩
  case bld zero parts fresh =>
   rw [zkU (r:=r) (r':=r') hg,hst]
   rw [yg] at h
   obtain ⟨cs,h1,rfl⟩:=h
   rw [h1]
   refine ⟨.agg cs,r.st ++ tokens fresh,rfl,by simp only [yt,zDT,R.allocs,R.at,hst],e4 ?_⟩
   cases fresh with
   | nil => simp [zaR] at hq
   | cons j js => rfl
  case cpy sz s x =>
   rw [hg.1,hg.2,hst]
   rw [yh] at h
   obtain ⟨ys,h1,h2⟩:=h
   rw [h1]
   simp only [yo]
   split at h2
   ·rename_i hok
    rw [if_pos hok]
    unfold zEA at h2 ⊢
    split at h2
    ·split at h2
     ·cases h2
     ·rename_i hk
      simp only [if_neg hk]
      rw [yh] at h2
      obtain ⟨o,h3,h4⟩:=h2
      rw [hst,h3]
      simp only [yo]
      cases o with
      | tok _ _ => simp [zjp] at h4
      | mp _ => simp [zjp] at h4
      | cells ver' sz' es =>
        simp only [zjp] at h4 ⊢
        split at h4
        ·rename_i hc
         injection h4 with h4
         exact ⟨_,_,h4.symm,by rw [if_pos hc]; simp only [R.setOb,R.at,hst],e5 rfl⟩
        ·cases h4
    ·cases h2
   ·cases h2
  case app sz s x =>
   rw [hg.1,hg.2,hst]
   rw [yh] at h
   obtain ⟨ys,h1,h2⟩:=h
   rw [h1]
   simp only [yo]
   split at h2
   ·rename_i hok
    rw [if_pos hok]
    unfold zCM at h2 ⊢
    split at h2
    ·rw [yh] at h2
     obtain ⟨o,h3,h4⟩:=h2
     rw [hst,h3]
     simp only [yo]
     unfold zor at h4 ⊢
     split at h4
     ·rename_i hc
      injection h4 with h4
      exact ⟨_,_,h4.symm,by rw [if_pos hc]; simp only [R.setOb,R.at,hst],e5 rfl⟩
     ·cases h4
    ·rw [yh] at h2
     obtain ⟨o,h3,h4⟩:=h2
     rw [hst,h3]
     simp only [yo]
     unfold ztE at h4 ⊢
     split at h4
     ·rename_i hc
      injection h4 with h4
      exact ⟨_,_,h4.symm,by rw [if_pos hc]; simp only [R.setOb,R.at,hst],e5 rfl⟩
     ·rename_i hc0
      split at h4
      ·rename_i hc
       injection h4 with h4
       exact ⟨_,_,h4.symm,by rw [if_neg hc0,if_pos hc]; simp only [R.at,← hst],e5 rfl⟩
      ·cases h4
    ·cases h2
   ·cases h2
  case frz sz x =>
   rw [hg]
   unfold zEa at h ⊢
   split at h
   ·rw [yh] at h
    obtain ⟨o,h3,h4⟩:=h
    rw [hst,h3]
    simp only [yo]
    unfold zvj at h4 ⊢
    split at h4
    ·split at h4
     ·rename_i hc
      rw [if_pos hc]
      rw [yg] at h4
      obtain ⟨xs,h4,rfl⟩:=h4
      exact ⟨_,_,rfl,by rw [h4]; simp only [yt,zuk,R.setOb,R.at,hst],e5 rfl⟩
     ·cases h4
    ·cases h4
   ·cases h
  case mu m k v =>
   rw [hg.1,hg.2.1,hg.2.2]
   rw [yg] at h
   obtain ⟨r2,h,rfl⟩:=h
   unfold amu at h ⊢
   split at h
   ·rw [yg] at h
    obtain ⟨es,h1,rfl⟩:=h
    rw [hst,h1]
    exact ⟨vun,_,rfl,by simp only [yt,zDY,R.setOb,R.at,hst],e5 rfl⟩
   ·cases h
  case call m f args =>
   have e1:=hg.1
   have e2:=zh9 (r:=r) (r':=r') (ys:=args) hg.2
   rw [e1,e2]
   unfold znQ at h ⊢
   split at h
   ·cases m
    case cl => simp [zaR] at hq
    case ck =>
     simp only at h ⊢
     split at h
     ·cases h
     ·rename_i hown
      rw [if_neg hown,hst]
      rw [yg] at h
      obtain ⟨x,h1,rfl⟩:=h
      rw [h1]
      exact ⟨_,_,rfl,by simp only [yt,zvS,R.at,hst],e5 rfl⟩
    case op =>
     simp only at h ⊢
     rw [hst]
     rw [yg] at h
     obtain ⟨x,h1,rfl⟩:=h
     rw [h1]
     exact ⟨_,_,rfl,by simp only [yt,zvP,R.at],e5 rfl⟩
   ·cases h
  all_goals first
   | (simp [zaR] at hq; done)
   | (cases h; done)
def zeF (x : Oper) : List X:=opX x.op ++ (match x.guard with
 | some (y,_) => [y]
 | none => [])
theorem zfI {x : Oper} {n : Nat} (hq : zaR x.op ≤ 2) (hg : ∀ y ∈ zeF x,r'.get y = r.get y) (hl : ∀ y ∈ zeF x,(r.get y).lt n = true) (h1 : zaR x.op = 1 → SameRow n r.st r'.st) (h2 : zaR x.op = 2 → Same n r.st r'.st) (h : step Cf r x = some r1) :
  ∃ v,r1 = r.put x.dst v ∧ step Cf r' x = some (r'.put x.dst v):=by
 obtain ⟨d,op,g⟩:=x
 cases g with
 | none => exact znc hq (fun y hy => hg y (by simp [zeF,hy])) (fun y hy => hl y (by simp [zeF,hy])) h1 h2 h
 | some p =>
   obtain ⟨y,b⟩:=p
   simp only [step] at h ⊢
   rw [hg y (by simp [zeF])]
   unfold znH at h ⊢
   split at h
   ·split at h
    ·rename_i hb
     rw [if_pos hb]
     exact znc hq (fun y hy => hg y (by simp [zeF,hy])) (fun y hy => hl y (by simp [zeF,hy])) h1 h2 h
    ·rename_i hb
     rw [if_neg hb]
     injection h with h
     exact ⟨.tup [],h.symm,rfl⟩
   ·injection h with h
    exact ⟨.tup [],h.symm,rfl⟩
   ·cases h
def zzv (c : Nat) (σ σ1 : zd) : Prop:=σ1 = σ ∨ zBr c σ σ1
theorem zre {x : Oper} (hg : ∀ y ∈ zeF x,r'.get y = r.get y) (hst : r'.st = r.st) (h : step Cf r x = some r1) :
  ∃ v σ1,r1 = (r.at σ1).put x.dst v ∧ step Cf r' x = some ((r'.at σ1).put x.dst v) ∧ zzv (zaR x.op) r.st σ1:=by
 obtain ⟨d,op,g⟩:=x
 cases g with
 | none =>
   obtain ⟨v,σ1,q1,q2,q3⟩:=zvW (fun y hy => hg y (by simp [zeF,hy])) hst h
   exact ⟨v,σ1,q1,q2,.inr q3⟩
 | some p =>
   obtain ⟨y,b⟩:=p
   simp only [step] at h ⊢
   rw [hg y (by simp [zeF])]
   unfold znH at h ⊢
   split at h
   ·split at h
    ·rename_i hb
     rw [if_pos hb]
     obtain ⟨v,σ1,q1,q2,q3⟩:=zvW (fun y hy => hg y (by simp [zeF,hy])) hst h
     exact ⟨v,σ1,q1,q2,.inr q3⟩
    ·rename_i hb
     rw [if_neg hb]
     injection h with h
     exact ⟨.tup [],r.st,h.symm,by rw [← hst]; rfl,.inl rfl⟩
   ·injection h with h
    exact ⟨.tup [],r.st,h.symm,by rw [← hst]; rfl,.inl rfl⟩
   ·cases h
theorem zD9 (r : R) (d : D) (v : V) : ∃ y,(r.put d v).rs = y :: r.rs:=by cases d <;> exact ⟨_,rfl⟩
theorem zC5 (r : R) (d : D) (v : V) : (r.put d v).env = match d with
 | .slot t => r.env.set t v
 | _ => r.env:=by cases d <;> rfl
end
end Go.A
namespace Go.A
def zqe (ms : List Nat) : List Nat → Nat → Nat
 | [],s => s
 | i :: es,s => zqe ms es (s ||| (2 ^ i ||| ms.getD i 0))
def zlN : List Go.Oper → List Nat → List Nat
 | [],acc => acc
 | o :: os,acc => zlN os (acc ++ [zqe acc (zww o) 0])
def ziX (gops : Array Go.Oper) (ms : List Nat) : Bool :=
 (ye gops.size).all fun j => (ms.getD j 0 == zqe ms (zat gops j) 0) && (zat gops j).all fun i => decide (i < j)
def bit (ms : List Nat) (j i : Nat) : Bool:=(ms.getD j 0).testBit i
theorem zqW {ms : List Nat} {i : Nat} : ∀ {es : List Nat} {s : Nat},(zqe ms es s).testBit i = true → s.testBit i = true ∨ ∃ e ∈ es,e = i ∨ bit ms e i = true
 | [],s,h => .inl h
 | e :: es,s,h => by
   simp only [zqe] at h
   rcases zqW h with h | ⟨e',he',h⟩
   ·simp only [Nat.testBit_or,yl,Nat.testBit_two_pow,decide_eq_true_eq] at h
    rcases h with h | h | h
    ·exact .inl h
    ·exact .inr ⟨e,by simp,.inl h⟩
    ·exact .inr ⟨e,by simp,.inr h⟩
   ·exact .inr ⟨e',by simp [he'],h⟩
theorem zkc {gops : Array Go.Oper} {ms : List Nat} (h : ziX gops ms = true) {j : Nat} (hj : j < gops.size) : ms.getD j 0 = zqe ms (zat gops j) 0 ∧ ∀ i ∈ zat gops j,i < j:=by
 unfold ziX at h
 have:=yf.1 h j (by simpa using hj)
 simp only [yb,beq_iff_eq] at this
 exact ⟨this.1,fun i hi => by simpa using yf.1 this.2 i hi⟩
theorem ze0 {gops : Array Go.Oper} {ms : List Nat} (h : ziX gops ms = true) {i : Nat} : ∀ (j : Nat),j < gops.size → bit ms j i = true → Reach gops j i:=by
 intro j
 induction j using Nat.strongRecOn with
 | _ j ih =>
   intro hj hb
   obtain ⟨h1,h2⟩:=zkc h hj
   unfold bit at hb
   rw [h1] at hb
   rcases zqW hb with hb | ⟨e,he,hb⟩
   ·simp at hb
   ·rcases hb with rfl | hb
    ·exact .edge he
    ·exact .more he (ih e (h2 e he) (by have:=h2 e he; omega) hb)
def free (c c' : Nat) : Bool:=c == 0 || c' == 0 || (decide (c ≤ 2) && decide (c' ≤ 2)) || (c == 1 && c' == 3) || (c == 3 && c' == 1) || (decide (c ≤ 2) && c' == 4) || (c == 4 && decide (c' ≤ 2))
def writes : Oper → Option Nat
 | ⟨.slot q,_,_⟩ => some q
 | _ => none
def zfn (q : Nat) (x : Oper) : Bool:=(zeF x).any fun
 | .s q' => q' == q
 | _ => false
def zgb (x y : Oper) : Bool :=
 (match writes x with
  | some q => !zfn q y && (match writes y with
    | some q' => q' != q
    | none => true)
  | none => true) &&
 (match writes y with
  | some q => !zfn q x
  | none => true)
def cls (xs : List Oper) (j : Nat) : Nat:=match xs[j]? with
 | some x => zaR x.op
 | none => 0
def zxl (loc : List (Option Tmp)) : X → Bool
 | .l d => match loc[d]? with
   | some (some t) => (loc.take d).all (· != some t)
   | _ => false
 | .s _ => true
 | .c v => v.lt 0
def zt4 (ms : List Nat) (xs : List Oper) (i j : Nat) : Bool:=match xs[i]?,xs[j]? with
 | some x,some y => ((free (zaR x.op) (zaR y.op) && zgb x y) || bit ms j i) && (match writes x,writes y with
   | some q,some q' => q != q'
   | _,_ => true)
 | _,_ => false
def zvI (P : Program) (κ : List Tmp) (nt : Nat) (gops : Array Go.Oper) (xs : List Oper) (ms : List Nat) (j : Nat) : Bool:=match gops[j]?,xs[j]? with
 | some o,some x => okD κ nt o.dst x.dst && zfJ κ (zff gops xs j) gops o.guard x.guard && zlB P κ (zff gops xs j) o x.dst x.op && (zeF x).all (zxl (zff gops xs j)) && (ye j).all fun i => zt4 ms xs i j
 | _,_ => false
def zir (P : Program) (κ : List Tmp) (nt : Nat) (gops : Array Go.Oper) (xs : List Oper) (ms : List Nat) (j : Nat) : Bool:=match gops[j]?,xs[j]? with
 | some o,some x => okD κ nt o.dst x.dst && zfJ κ (zhT gops xs j) gops o.guard x.guard && zlB P κ (zhT gops xs j) o x.dst x.op && (ye j).all fun i => bit ms j i
 | _,_ => false
def zn4 (ms : List Nat) : Nat → Nat
 | 0 => 0
 | n + 1 => if (ye n).all (fun i => bit ms n i) then zn4 ms n else n + 1
def zDN (gops : Array Go.Oper) (xs : List Oper) (p : Nat) : List Tmp:=(ye p).filterMap (lo gops xs)
def zrP (P : Program) : List Tmp → Nat → Array Go.Oper → List Oper → Bool:=fun κ nt gops xs =>
 let ms:=zlN gops.toList []
 let p:=zn4 ms gops.size
 ziX gops ms && xs.length == gops.size && decide (p ≤ gops.size) && zjo (zDN gops xs p) && (ye p).all (zvI P κ nt gops xs ms) && (ye gops.size).all fun j => decide (j < p) || zir P κ nt gops xs ms j
section
variable {P : Program} {κ : List Tmp} {nt : Nat} {gops : Array Go.Oper} {xs : List Oper} {ms : List Nat} {p : Nat}
theorem zj8 : ∀ {l : List Nat},zjo (l.filterMap (lo gops xs)) = true → l.Nodup → ∀ i ∈ l,∀ j ∈ l,∀ t,lo gops xs i = some t → lo gops xs j = some t → i = j
 | [],_,_,i,hi,_,_,_,_,_ => by simp at hi
 | x :: l,h,hn,i,hi,j,hj,t,h1,h2 => by
   rw [yS] at hn
   have tailN : zjo (l.filterMap (lo gops xs)) = true:=by
    rw [yH] at h
    split at h
    ·exact h
    ·simp only [zjo,yb] at h; exact h.2
   have clash : ∀ k ∈ l,∀ t,lo gops xs x = some t → lo gops xs k = some t → False:=fun k hk t hx hk' => by
    rw [yH,hx] at h
    simp only [zjo,yb,yp] at h
    have : t ∈ l.filterMap (lo gops xs):=List.mem_filterMap.2 ⟨k,hk,hk'⟩
    simp [this] at h
   rcases yy.1 hi with e1 | hi'
   ·rcases yy.1 hj with e2 | hj'
    ·rw [e1,e2]
    ·exact (clash j hj' t (by rw [← e1]; exact h1) h2).elim
   ·rcases yy.1 hj with e2 | hj'
    ·exact (clash i hi' t (by rw [← e2]; exact h2) h1).elim
    ·exact zj8 tailN hn.2 i hi' j hj' t h1 h2
theorem zk5 {j : Nat} (h : zvI P κ nt gops xs ms j = true) {o : Go.Oper} {x : Oper} (ho : gops[j]? = some o) (hx : xs[j]? = some x) :
  okD κ nt o.dst x.dst = true ∧ zfJ κ (zff gops xs j) gops o.guard x.guard = true ∧ zlB P κ (zff gops xs j) o x.dst x.op = true ∧ (∀ y ∈ zeF x,zxl (zff gops xs j) y = true) ∧ ∀ i,i < j → zt4 ms xs i j = true:=by
 unfold zvI at h
 rw [ho,hx] at h
 simp only [yb] at h
 obtain ⟨⟨⟨⟨h1,h2⟩,h3⟩,h4⟩,h5⟩:=h
 exact ⟨h1,h2,h3,fun y hy => yf.1 h4 y hy,fun i hi => yf.1 h5 i (by simpa using hi)⟩
structure Chk (P : Program) (κ : List Tmp) (nt : Nat) (gops : Array Go.Oper) (xs : List Oper) (ms : List Nat) (p : Nat) : Prop where
 masks : ziX gops ms = true
 len : xs.length = gops.size
 p_le : p ≤ gops.size
 dup : zjo (zDN gops xs p) = true
 pre : ∀ j,j < p → zvI P κ nt gops xs ms j = true
 tail : ∀ j,p ≤ j → j < gops.size → zir P κ nt gops xs ms j = true
theorem zEN (h : zrP P κ nt gops xs = true) : ∃ ms p,Chk P κ nt gops xs ms p:=by
 unfold zrP at h
 simp only [yb,beq_iff_eq,decide_eq_true_eq] at h
 obtain ⟨⟨⟨⟨⟨h1,h2⟩,h3⟩,h4⟩,h5⟩,h6⟩:=h
 refine ⟨_,_,h1,h2,h3,h4,fun j hj => yf.1 h5 j (by simpa using hj),fun j hj hlt => ?_⟩
 have:=yf.1 h6 j (by simpa using hlt)
 simp only [yl,decide_eq_true_eq] at this
 rcases this with h | h
 ·omega
 ·exact h
theorem Chk.plan (C : Chk P κ nt gops xs ms p) : Plan P κ nt gops xs p where
 len:=C.len
 p_le:=C.p_le
 back:=fun j o ho i hi => by
  have hj : j < gops.size:=(yi.1 ho).1
  exact (zkc C.masks hj).2 i (by unfold zat; rw [ho]; exact hi)
 pre:=fun j o x hj ho hx => (zk5 (C.pre j hj) ho hx).1
 apart:=fun i j t hi hj h1 h2 => zj8 C.dup yO i (by simpa using hi) j (by simpa using hj) t h1 h2
 tail:=fun j o x hj ho hx => by
  have hlt : j < gops.size:=(yi.1 ho).1
  have h:=C.tail j hj hlt
  unfold zir at h
  rw [ho,hx] at h
  simp only [yb] at h
  obtain ⟨⟨⟨h1,h2⟩,h3⟩,h4⟩:=h
  exact ⟨h1,h2,h3,fun i hi => ze0 C.masks j hlt (yf.1 h4 i (by simpa using hi))⟩
theorem Chk.pair (C : Chk P κ nt gops xs ms p) {i j : Nat} (hij : i < j) (hj : j < p) {x y : Oper} (hx : xs[i]? = some x) (hy : xs[j]? = some y) :
  ((free (zaR x.op) (zaR y.op) = true ∧ zgb x y = true) ∨ Reach gops j i) ∧ ∀ q,writes x = some q → writes y ≠ some q:=by
 have hlt : j < gops.size:=yn hj C.p_le
 have h:=(zk5 (C.pre j hj) (ym hlt) hy).2.2.2.2 i hij
 unfold zt4 at h
 rw [hx,hy] at h
 simp only [yb,yl] at h
 obtain ⟨h1,h2⟩:=h
 refine ⟨h1.imp id fun h => ze0 C.masks j hlt h,fun q hq hq' => ?_⟩
 rw [hq,hq'] at h2
 simp at h2
variable {Cf : zad} {rr : Nat → R}
def za6 (rr : Nat → R) (j : Nat) : V:=(rr (j + 1)).rs.headD vun
theorem zmj (hrr : ∀ i x,xs[i]? = some x → step Cf (rr i) x = some (rr (i + 1))) {j : Nat} {x : Oper} (hx : xs[j]? = some x) :
  ∃ v σ1,rr (j + 1) = ((rr j).at σ1).put x.dst v ∧ zzv (zaR x.op) (rr j).st σ1:=by
 obtain ⟨v,σ1,h1,_,h3⟩:=zre (r':=rr j) (fun _ _ => rfl) rfl (hrr j x hx)
 exact ⟨v,σ1,h1,h3⟩
theorem znG (hrr : ∀ i x,xs[i]? = some x → step Cf (rr i) x = some (rr (i + 1))) (h0 : (rr 0).rs = []) : ∀ j,j ≤ xs.length → (rr j).rs = (ye j).reverse.map (za6 rr)
 | 0,_ => by simpa using h0
 | j + 1,hj => by
   have ih:=znG hrr h0 j (by omega)
   obtain ⟨v,σ1,h1,_⟩:=zmj hrr (ya (by omega : j < xs.length))
   obtain ⟨y,hy⟩:=zD9 ((rr j).at σ1) xs[j].dst v
   rw [yT,List.reverse_append]
   simp only [List.reverse_cons,List.reverse_nil,List.nil_append,List.map_append,List.map_cons,List.map_nil,List.singleton_append]
   have e : (rr (j + 1)).rs = y :: (rr j).rs:=by rw [h1]; exact hy
   have e2 : za6 rr j = y:=by unfold za6; rw [e]; rfl
   rw [e,e2,ih]
def wr (xs : List Oper) (p q : Nat) : Option Nat:=(ye p).find? fun k => match xs[k]? with
 | some x => writes x == some q
 | none => false
theorem zgk {q k : Nat} (h : wr xs p q = some k) : k < p ∧ ∃ x,xs[k]? = some x ∧ writes x = some q:=by
 unfold wr at h
 have h1:=List.find?_some h
 have h2:=List.mem_of_find?_eq_some h
 refine ⟨by simpa using h2,?_⟩
 split at h1
 ·rename_i x hx; exact ⟨x,hx,by simpa using h1⟩
 ·cases h1
structure ChkW (xs : List Oper) (p : Nat) : Prop where
 le : p ≤ xs.length
 ww : ∀ {i j : Nat},i < j → j < p → ∀ {x y : Oper},xs[i]? = some x → xs[j]? = some y → ∀ q,writes x = some q → writes y ≠ some q
theorem Chk.w (C : Chk P κ nt gops xs ms p) : ChkW xs p:=⟨by rw [C.len]; exact C.p_le,fun hij hj _ _ hx hy => (C.pair hij hj hx hy).2⟩
theorem zBG (C : ChkW xs p) {q k : Nat} {x : Oper} (hk : k < p) (hx : xs[k]? = some x) (hw : writes x = some q) : wr xs p q = some k:=by
 cases h : wr xs p q with
 | none =>
   unfold wr at h
   rw [List.find?_eq_none] at h
   have:=h k (by simpa using hk)
   rw [hx] at this
   simp [hw] at this
 | some k' =>
   obtain ⟨h1,x',h2,h3⟩:=zgk h
   rcases yv k k' with hlt | rfl | hlt
   ·exact absurd h3 (C.ww hlt h1 hx h2 q hw)
   ·rfl
   ·exact absurd hw (C.ww hlt hk h2 hx q h3)
def zg0 (rr : Nat → R) (xs : List Oper) (p : Nat) (D : Nat → Bool) (q : Nat) : V:=match wr xs p q with
 | some k => if D k then (rr (k + 1)).env.getD q vun else (rr 0).env.getD q vun
 | none => (rr 0).env.getD q vun
def zdP (rr : Nat → R) (xs : List Oper) (p : Nat) (D : Nat → Bool) : List V:=(ye (rr 0).env.length).map (zg0 rr xs p D)
theorem zgl (C : ChkW xs p) (hrr : ∀ i x,xs[i]? = some x → step Cf (rr i) x = some (rr (i + 1))) : ∀ j,j ≤ p → (rr j).env.length = (rr 0).env.length ∧ ∀ q,(rr j).env.getD q vun = zg0 rr xs p (fun k => decide (k < j)) q
 | 0,_ => ⟨rfl,fun q => by
   unfold zg0
   split <;> simp⟩
 | j + 1,hj => by
   obtain ⟨ih1,ih2⟩:=zgl C hrr j (by omega)
   have hlt : j < xs.length:=by have:=C.le; omega
   have hx : xs[j]? = some xs[j]:=ya hlt
   obtain ⟨v,σ1,h1,_⟩:=zmj hrr hx
   have henv:=zC5 ((rr j).at σ1) xs[j].dst v
   rw [← h1] at henv
   refine ⟨?_,fun q => ?_⟩
   ·rw [henv]
    split
    ·simp [R.at,ih1]
    ·exact ih1
   ·by_cases hw : writes xs[j] = some q
    ·have hwr:=zBG C (by omega : j < p) hx hw
     unfold zg0
     rw [hwr]
     simp
    ·have hkeep : (rr (j + 1)).env.getD q vun = (rr j).env.getD q vun:=by
      rw [henv]
      split
      ·rename_i t ht
       have hne : t ≠ q:=fun e => hw (by
        subst e
        have : xs[j] = ⟨.slot t,xs[j].op,xs[j].guard⟩:=by
         cases hxx : xs[j] with
         | mk d op g => rw [hxx] at ht; simp only at ht; rw [ht]
        rw [this]; rfl)
       simp only [yc,yw hne,R.at]
      ·rfl
     rw [hkeep,ih2]
     unfold zg0
     split
     ·rename_i k hk
      obtain ⟨q1,x',q2,q3⟩:=zgk hk
      have hne : k ≠ j:=fun e => by subst e; rw [hx] at q2; injection q2 with q2; rw [← q2] at q3; exact hw q3
      by_cases hkj : k < j
      ·simp only [decide_eq_true_eq,if_pos hkj,if_pos (by omega : k < j + 1)]
      ·simp only [decide_eq_true_eq,if_neg hkj,if_neg (by omega : ¬ k < j + 1)]
     ·rfl
theorem zgH {D : Nat → Bool} {q : Nat} (C : ChkW xs p) (hrr : ∀ i x,xs[i]? = some x → step Cf (rr i) x = some (rr (i + 1))) : (zdP rr xs p D).getD q vun = zg0 rr xs p D q:=by
 unfold zdP
 by_cases hq : q < (rr 0).env.length
 ·simp [yc,hq]
 ·have e0 : (rr 0).env.getD q vun = vun:=by simp [yc,hq]
  have e1 : ((ye (rr 0).env.length).map (zg0 rr xs p D)).getD q vun = vun:=by simp [yc,hq]
  rw [e1]
  unfold zg0
  split
  ·rename_i k hk
   obtain ⟨q1,_⟩:=zgk hk
   have hl:=(zgl C hrr (k + 1) (by omega)).1
   split
   ·simp [yc,hl,hq]
   ·exact e0.symm
  ·exact e0.symm
def zeL (xs : List Oper) (D : Nat → Bool) : Nat → Nat
 | 0 => 0
 | n + 1 => if D n && decide (3 ≤ cls xs n) then n + 1 else zeL xs D n
def zpH (rr : Nat → R) (xs : List Oper) (p : Nat) (D : Nat → Bool) : zd:=(rr (zeL xs D p)).st
theorem zod (D : Nat → Bool) : ∀ n,zeL xs D n ≤ n
 | 0 => yk _
 | n + 1 => by
   have:=zod D n
   simp only [zeL]
   split <;> omega
theorem zn1 (D : Nat → Bool) : ∀ n,zeL xs D n = 0 ∨ ∃ k,zeL xs D n = k + 1 ∧ D k = true ∧ 3 ≤ cls xs k
 | 0 => .inl rfl
 | n + 1 => by
   simp only [zeL]
   split
   ·rename_i h
    simp only [yb,decide_eq_true_eq] at h
    exact .inr ⟨n,rfl,h⟩
   ·exact zn1 D n
theorem zg8 (D : Nat → Bool) : ∀ n k,zeL xs D n ≤ k → k < n → ¬ (D k = true ∧ 3 ≤ cls xs k)
 | 0,k,_,h => by omega
 | n + 1,k,h1,h2 => by
   simp only [zeL] at h1
   split at h1
   ·omega
   ·rename_i h
    rcases yu k n with hk | hk
    ·exact zg8 D n k h1 hk
    ·have : k = n:=by omega
     subst this
     intro ⟨a,b⟩
     exact h (by simp [a,b])
end
end Go.A
namespace Go.A
theorem zos {g : G} {w : World} {σ : zd} : ∀ (v : V) (u : Value),zf g w σ v u → v.lt σ.length = true
 | .one c,u,h => by
   simp only [zf] at h
   simp only [V.lt]
   exact zmL c u h
 | .agg cs,u,h => by
   simp only [zf] at h
   obtain ⟨us,_,h2⟩:=h
   simp only [V.lt]
   exact zof cs _ h2
 | .tup vs,u,h => by
   simp only [zf] at h
   obtain ⟨us,_,h2⟩:=h
   simp only [V.lt]
   exact go vs _ h2
 where go : ∀ (vs : List V) (us : List Value),zz g w σ vs us → V.lts σ.length vs = true
 | [],_,_ => rfl
 | v :: vs,us,h => by
   simp only [zz] at h
   obtain ⟨x,xs,_,h1,h2⟩:=h
   simp only [V.lts,yb]
   exact ⟨zos v x h1,go vs xs h2⟩
mutual
theorem C.lt_mono {n m : Nat} (h : n ≤ m) : ∀ c : C,c.lt n = true → c.lt m = true
 | .f _,_ => by simp [C.lt]
 | .ap t _ _,hc => by simp [C.lt] at hc ⊢; omega
 | .ptr id _ _ _,hc => by simp [C.lt] at hc ⊢; omega
 | .fp _ _,_ => by simp [C.lt]
 | .own id _ _ _,hc => by simp [C.lt] at hc ⊢; omega
 | .map id,hc => by simp [C.lt] at hc ⊢; omega
 | .fn _ a b,hc => by
   simp only [C.lt,yb] at hc ⊢
   exact ⟨C.lts_mono h a hc.1,C.lts_mono h b hc.2⟩
 | .un,_ => by simp [C.lt]
theorem C.lts_mono {n m : Nat} (h : n ≤ m) : ∀ cs : List C,C.lts n cs = true → C.lts m cs = true
 | [],_ => rfl
 | c :: cs,hc => by
   simp only [C.lts,yb] at hc ⊢
   exact ⟨C.lt_mono h c hc.1,C.lts_mono h cs hc.2⟩
end
mutual
theorem V.lt_mono {n m : Nat} (h : n ≤ m) : ∀ c : V,c.lt n = true → c.lt m = true
 | .one c,hc => by
   simp only [V.lt] at hc ⊢
   exact C.lt_mono h c hc
 | .agg cs,hc => by
   simp only [V.lt] at hc ⊢
   exact C.lts_mono h cs hc
 | .tup vs,hc => by
   simp only [V.lt] at hc ⊢
   exact V.lts_mono h vs hc
theorem V.lts_mono {n m : Nat} (h : n ≤ m) : ∀ cs : List V,V.lts n cs = true → V.lts m cs = true
 | [],_ => rfl
 | c :: cs,hc => by
   simp only [V.lts,yb] at hc ⊢
   exact ⟨V.lt_mono h c hc.1,V.lts_mono h cs hc.2⟩
end
theorem zsd {c c' : Nat} (h : free c c' = true) : c ≤ 2 ∨ c' ≤ 2:=by
 unfold free at h
 simp only [yl,yb,beq_iff_eq,decide_eq_true_eq] at h
 omega
theorem zvq {c : Nat} (h : free 2 c = true ∨ free c 2 = true) : c ≤ 2 ∨ c = 4:=by
 unfold free at h
 simp only [yl,yb,beq_iff_eq,decide_eq_true_eq] at h
 omega
theorem zvp {c : Nat} (h : free 1 c = true ∨ free c 1 = true) : c ≤ 4:=by
 unfold free at h
 simp only [yl,yb,beq_iff_eq,decide_eq_true_eq] at h
 omega
section
variable {P : Program} {κ : List Tmp} {nt : Nat} {gops : Array Go.Oper} {xs : List Oper} {ms : List Nat} {p b l : Nat} {Cf : zad} {rr : Nat → R}
theorem zAe (hrr : ∀ i x,xs[i]? = some x → step Cf (rr i) x = some (rr (i + 1))) {j : Nat} {x : Oper} (hx : xs[j]? = some x) : zzv (zaR x.op) (rr j).st (rr (j + 1)).st:=by
 obtain ⟨v,σ1,h1,h2⟩:=zmj hrr hx
 rw [h1,zeU]
 exact h2
theorem zhq {j : Nat} {x : Oper} (hx : xs[j]? = some x) : cls xs j = zaR x.op:=by unfold cls; rw [hx]
theorem zn6 (hrr : ∀ i x,xs[i]? = some x → step Cf (rr i) x = some (rr (i + 1))) {a : Nat} : ∀ n,a + n ≤ xs.length → (∀ k,a ≤ k → k < a + n → ¬ 3 ≤ cls xs k) → (rr (a + n)).st = (rr a).st
 | 0,_,_ => rfl
 | n + 1,hn,h => by
   have ih:=zn6 hrr n (by omega) fun k h1 h2 => h k h1 (by omega)
   have hx : xs[a + n]? = some (xs[a + n]'(by omega)):=ya (by omega)
   have hc:=h (a + n) (by omega) (by omega)
   rw [zhq hx] at hc
   rcases zAe hrr hx with e | e
   ·rw [← yA,e,ih]
   ·rw [← yA,e.1 (by omega),ih]
theorem zlG (hrr : ∀ i x,xs[i]? = some x → step Cf (rr i) x = some (rr (i + 1))) {a : Nat} : ∀ n,a + n ≤ xs.length → (∀ k,a ≤ k → k < a + n → cls xs k ≤ 2 ∨ cls xs k = 4) → ∃ os,(rr (a + n)).st = (rr a).st ++ os
 | 0,_,_ => ⟨[],by simp⟩
 | n + 1,hn,h => by
   obtain ⟨os,ih⟩:=zlG hrr n (by omega) fun k h1 h2 => h k h1 (by omega)
   have hx : xs[a + n]? = some (xs[a + n]'(by omega)):=ya (by omega)
   have hc:=h (a + n) (by omega) (by omega)
   rw [zhq hx] at hc
   rw [← yA]
   rcases zAe hrr hx with e | e
   ·exact ⟨os,by rw [e,ih]⟩
   ·rcases hc with hc | hc
    ·exact ⟨os,by rw [e.1 hc,ih]⟩
    ·obtain ⟨os',e'⟩:=e.2.2 hc
     exact ⟨os ++ os',by rw [e',ih,List.append_assoc]⟩
theorem zmu (hrr : ∀ i x,xs[i]? = some x → step Cf (rr i) x = some (rr (i + 1))) {a : Nat} : ∀ n,a + n ≤ xs.length → (∀ k,a ≤ k → k < a + n → cls xs k ≤ 4) →
  (rr a).st.length ≤ (rr (a + n)).st.length ∧ (∀ q,SameRow q (rr a).st (rr (a + n)).st) ∧ ∀ q,q ≤ (rr a).st.length → SameRow q (rr (a + n)).st (rr a).st
 | 0,_,_ => ⟨yk _,fun q => ⟨fun id ver sz o _ ho hr => ⟨o,ho,hr⟩⟩,fun q _ => ⟨fun id ver sz o _ ho hr => ⟨o,ho,hr⟩⟩⟩
 | n + 1,hn,h => by
   obtain ⟨ih0,ih1,ih2⟩:=zmu hrr n (by omega) fun k h1 h2 => h k h1 (by omega)
   have hx : xs[a + n]? = some (xs[a + n]'(by omega)):=ya (by omega)
   have hc:=h (a + n) (by omega) (by omega)
   rw [zhq hx] at hc
   rw [← yA]
   have key : (rr (a + n)).st.length ≤ (rr (a + n + 1)).st.length ∧ (∀ q,SameRow q (rr (a + n)).st (rr (a + n + 1)).st) ∧ ∀ q,q ≤ (rr (a + n)).st.length → SameRow q (rr (a + n + 1)).st (rr (a + n)).st:=by
    have same : (rr (a + n + 1)).st = (rr (a + n)).st → (rr (a + n)).st.length ≤ (rr (a + n + 1)).st.length ∧ (∀ q,SameRow q (rr (a + n)).st (rr (a + n + 1)).st) ∧ ∀ q,q ≤ (rr (a + n)).st.length → SameRow q (rr (a + n + 1)).st (rr (a + n)).st:=fun e => by
     rw [e]
     exact ⟨yk _,fun q => ⟨fun id ver sz o _ ho hr => ⟨o,ho,hr⟩⟩,fun q _ => ⟨fun id ver sz o _ ho hr => ⟨o,ho,hr⟩⟩⟩
    rcases zAe hrr hx with e | e
    ·exact same e
    ·rcases yu (zaR (xs[a + n]'(by omega)).op) 3 with h3 | h3
     ·exact same (e.1 (by omega))
     ·rcases yu (zaR (xs[a + n]'(by omega)).op) 4 with h4 | h4
      ·obtain ⟨q1,q2⟩:=e.2.1 (by omega)
       exact ⟨by omega,fun q => (q2 q).1,fun q _ => (q2 q).2⟩
      ·obtain ⟨os,e'⟩:=e.2.2 (by omega)
       rw [e']
       refine ⟨by simp,fun q => ⟨fun id ver sz o _ ho hr => ⟨o,by rw [yd (zb ho)]; exact ho,hr⟩⟩,fun q hq => ⟨fun id ver sz o hid ho hr => ⟨o,?_,hr⟩⟩⟩
       rw [yd (by omega)] at ho
       exact ho
   refine ⟨by omega,fun q => ⟨fun id ver sz o hid ho hr => ?_⟩,fun q hq => ⟨fun id ver sz o hid ho hr => ?_⟩⟩
   ·obtain ⟨o1,q1,q2⟩:=(ih1 q).row id ver sz o hid ho hr
    exact (key.2.1 q).row id ver sz o1 hid q1 q2
   ·obtain ⟨o1,q1,q2⟩:=(key.2.2 q (by omega)).row id ver sz o hid ho hr
    exact (ih2 q hq).row id ver sz o1 hid q1 q2
theorem zoW {D : Nat → Bool} {j : Nat} (hq : ¬ 3 ≤ cls xs j) : ∀ n,zeL xs (zba D j) n = zeL xs D n
 | 0 => rfl
 | n + 1 => by
   simp only [zeL,zoW hq n]
   by_cases h : n = j
   ·subst h
    simp [hq]
   ·simp [zba,h]
theorem ztI {D : Nat → Bool} {j : Nat} (hj : 3 ≤ cls xs j) : ∀ n,j < n → (∀ k,j < k → k < n → ¬ (D k = true ∧ 3 ≤ cls xs k)) → zeL xs (zba D j) n = j + 1
 | 0,h,_ => by omega
 | n + 1,h,hno => by
   simp only [zeL]
   by_cases e : n = j
   ·subst e
    simp [zba,hj]
   ·have hne:=hno n (by omega) (by omega)
    have hu : zba D j n = D n:=by simp [zba,e]
    rw [hu,if_neg (by simpa using fun a => by simpa [a] using hne)]
    exact ztI hj n (by omega) fun k h1 h2 => hno k h1 (by omega)
theorem zow (C : ChkW xs p) (hrr : ∀ i x,xs[i]? = some x → step Cf (rr i) x = some (rr (i + 1))) {D : Nat → Bool} {j : Nat} {x : Oper} (hj : j < p) (hx : xs[j]? = some x) {v : V} {σ1 : zd} (hv : rr (j + 1) = ((rr j).at σ1).put x.dst v) :
  zdP rr xs p (zba D j) = match x.dst with
   | .slot t => (zdP rr xs p D).set t v
   | _ => zdP rr xs p D:=by
 have hother : ∀ q,writes x ≠ some q → zg0 rr xs p (zba D j) q = zg0 rr xs p D q:=fun q hq => by
  unfold zg0
  split
  ·rename_i k hk
   obtain ⟨_,x',h2,h3⟩:=zgk hk
   have hne : k ≠ j:=fun e => by subst e; rw [hx] at h2; injection h2 with h2; subst h2; exact hq h3
   have : zba D j k = D k:=by simp [zba,hne]
   rw [this]
  ·rfl
 obtain ⟨d,op,gd⟩:=x
 cases d with
 | slot t =>
   have hw : writes ⟨.slot t,op,gd⟩ = some t:=rfl
   have hwr:=zBG C hj hx hw
   refine yB fun q => ?_
   rw [List.getElem?_set]
   by_cases hq : q < (rr 0).env.length
   ·by_cases e : t = q
    ·subst e
     rw [if_pos rfl,if_pos (by simpa [zdP] using hq)]
     unfold zdP
     rw [yC,yI hq]
     simp only [yt]
     unfold zg0
     rw [hwr]
     have h1 : zba D j j = true:=by simp [zba]
     simp only [h1,if_true]
     rw [hv]
     have hl:=(zgl C hrr j (by omega)).1
     simp [R.put,R.at,yc,hl,hq]
    ·rw [if_neg e]
     unfold zdP
     rw [yC,yC,yI hq]
     simp only [yt]
     rw [hother q (by rw [hw]; simpa using e)]
   ·have h1 : (zdP rr xs p (zba D j))[q]? = none:=yj (by simp [zdP]; omega)
    have h2 : (zdP rr xs p D)[q]? = none:=yj (by simp [zdP]; omega)
    rw [h1]
    split
    ·rw [if_neg (by simp [zdP]; omega)]
    ·exact h2.symm
 | no => exact yJ fun q _ => hother q (by simp [writes])
 | loc => exact yJ fun q _ => hother q (by simp [writes])
theorem zBe (S : zgX P Cf) (C : Chk P κ nt gops xs ms p) (hrr : ∀ i x,xs[i]? = some x → step Cf (rr i) x = some (rr (i + 1))) (h0 : (rr 0).rs = []) : Local P κ nt gops xs (za6 rr) (zdP rr xs p) (zpH rr xs p) p b l:=by
 intro j o x D g w a next Q hj ho hx hDj hE hcl hDp R0 F k
 have hpN : p ≤ xs.length:=by rw [C.len]; exact C.p_le
 obtain ⟨c1,c2,c3,c4,_⟩:=zk5 (C.pre j hj) ho hx
 have hA : ∀ i,Reach gops j i → D i = true:=fun i h => za0 hcl h hE
 have hB : ∀ i,Reach gops i j → D i = false:=fun i h => by
  cases hi : D i with
  | false => rfl
  | true =>
    have:=za0 hcl h (hcl i hi)
    rw [hDj] at this
    cases this
 let r' : R:=⟨(ye j).reverse.map (za6 rr),zdP rr xs p D,zpH rr xs p D,b,l⟩
 have hrs:=znG hrr h0 j (by omega)
 obtain ⟨_,henv⟩:=zgl C.w hrr j (yz hj)
 have hget : ∀ y ∈ zeF x,r'.get y = (rr j).get y:=fun y hy => by
  cases y with
  | l d => show ((ye j).reverse.map (za6 rr)).getD d vun = (rr j).rs.getD d vun; rw [hrs]
  | c v => rfl
  | s q =>
    show (zdP rr xs p D).getD q vun = (rr j).env.getD q vun
    rw [zgH C.w hrr,henv]
    unfold zg0
    split
    ·rename_i i hi
     obtain ⟨hip,x',hx',hw⟩:=zgk hi
     have hread : zfn q x = true:=by
      unfold zfn
      rw [yP]
      exact ⟨_,hy,by simp⟩
     have : D i = decide (i < j):=by
      rcases yv i j with hlt | rfl | hlt
      ·rcases (C.pair hlt hj hx' hx).1 with h | h
       ·exfalso
        have:=h.2
        unfold zgb at this
        rw [hw] at this
        simp [hread] at this
       ·rw [hA i h]; simp [hlt]
      ·rw [hDj]; simp
      ·rcases (C.pair hlt hip hx hx').1 with h | h
       ·exfalso
        have:=h.2
        unfold zgb at this
        rw [hw] at this
        simp [hread] at this
       ·rw [hB i h]; simp; omega
     simp only [this]
    ·rfl
 have hlt : ∀ y ∈ zeF x,((rr j).get y).lt (zpH rr xs p D).length = true:=fun y hy => by
  rw [← hget y hy]
  have hu:=c4 y hy
  cases y with
  | l d =>
    simp only [zxl] at hu
    split at hu
    ·rename_i t ht
     exact zos _ _ (F.lc d t ht hu)
    ·cases hu
  | s q =>
    by_cases hq : q < κ.length
    ·exact zos _ _ (F.env q _ (ya hq))
    ·have hl:=F.len
     have : r'.get (.s q) = vun:=by
      show (zdP rr xs p D).getD q vun = vun
      rw [yc,yj (by simp only at hl; omega)]
      rfl
     rw [this]
     rfl
  | c v => exact V.lt_mono (yR _) v hu
 have finish : ∀ {v : V} {σ1 : zd},rr (j + 1) = ((rr j).at σ1).put x.dst v → zpH rr xs p (zba D j) = σ1 → (r'.at σ1).put x.dst v = ⟨za6 rr j :: (ye j).reverse.map (za6 rr),zdP rr xs p (zba D j),zpH rr xs p (zba D j),b,l⟩:=fun {v σ1} h1 h2 => by
  have he:=zow C.w hrr (D:=D) hj hx h1
  have hval : za6 rr j = (((rr j).at σ1).put x.dst v).rs.headD vun:=by unfold za6; rw [h1]
  rw [he,h2,hval]
  cases x.dst <;> rfl
 by_cases hc : zaR x.op ≤ 2
 ·
  have hst : (zaR x.op = 1 → SameRow (zpH rr xs p D).length (rr j).st r'.st) ∧ (zaR x.op = 2 → Same (zpH rr xs p D).length (rr j).st r'.st):=by
   show (zaR x.op = 1 → SameRow (zpH rr xs p D).length (rr j).st (zpH rr xs p D)) ∧ (zaR x.op = 2 → Same (zpH rr xs p D).length (rr j).st (zpH rr xs p D))
   unfold zpH
   have hmp:=zod (xs:=xs) D p
   rcases yu j (zeL xs D p) with hm | hm
   ·
    rcases zn1 (xs:=xs) D p with h | ⟨e,he,hDe,hce⟩
    ·omega
    ·have hclass : ∀ i,j ≤ i → i < zeL xs D p → cls xs i ≤ 2 ∨ (free (zaR x.op) (cls xs i) = true):=fun i h1 h2 => by
      rcases yu (cls xs i) 3 with h | h
      ·exact .inl (by omega)
      ·have hij : j ≠ i:=fun e' => by subst e'; rw [zhq hx] at h; omega
       have hxi : xs[i]? = some (xs[i]'(by omega)):=ya (by omega)
       have hDi : D i = true:=by
        rcases yu i e with hie | hie
        ·have hxe : xs[e]? = some (xs[e]'(by omega)):=ya (by omega)
         rcases (C.pair hie (by omega) hxi hxe).1 with hf | hr
         ·have:=zsd hf.1
          rw [zhq hxi] at h
          rw [zhq hxe] at hce
          omega
         ·exact za0 hcl hr (hcl e hDe)
        ·have : i = e:=by omega
         rw [this]; exact hDe
       rcases (C.pair (by omega : j < i) (by omega) hx hxi).1 with hf | hr
       ·exact .inr (by rw [zhq hxi]; exact hf.1)
       ·have:=hB i hr
        rw [hDi] at this
        cases this
     obtain ⟨n,hn⟩ : ∃ n,zeL xs D p = j + n:=⟨zeL xs D p - j,by omega⟩
     rw [hn]
     refine ⟨fun hc1 => (zmu hrr n (by omega) fun i h1 h2 => ?_).2.1 _,fun hc2 => ?_⟩
     ·rcases hclass i h1 (by omega) with h | h
      ·omega
      ·exact zvp (.inl (by rw [← hc1]; exact h))
     ·obtain ⟨os,hos⟩:=zlG hrr (a:=j) n (by omega) fun i h1 h2 => by
       rcases hclass i h1 (by omega) with h | h
       ·exact .inl h
       ·exact zvq (.inl (by rw [← hc2]; exact h))
      rw [hos]
      exact ⟨fun id o _ ho => by rw [yd (zb ho)]; exact ho⟩
   ·
    have hclass : ∀ i,zeL xs D p ≤ i → i < j → cls xs i ≤ 2 ∨ free (cls xs i) (zaR x.op) = true:=fun i h1 h2 => by
     rcases yu (cls xs i) 3 with h | h
     ·exact .inl (by omega)
     ·have hxi : xs[i]? = some (xs[i]'(by omega)):=ya (by omega)
      have hno:=zg8 (xs:=xs) D p i h1 (by omega)
      rcases (C.pair h2 hj hxi hx).1 with hf | hr
      ·exact .inr (by rw [zhq hxi]; exact hf.1)
      ·exact absurd ⟨hA i hr,h⟩ hno
    obtain ⟨n,hn⟩ : ∃ n,j = zeL xs D p + n:=⟨j - zeL xs D p,by omega⟩
    have e1 : (rr j).st = (rr (zeL xs D p + n)).st:=by rw [← hn]
    rw [e1]
    refine ⟨fun hc1 => (zmu hrr n (by omega) fun i h1 h2 => ?_).2.2 _ (yk _),fun hc2 => ?_⟩
    ·rcases hclass i h1 (by omega) with h | h
     ·omega
     ·exact zvp (.inr (by rw [← hc1]; exact h))
    ·obtain ⟨os,hos⟩:=zlG hrr (a:=zeL xs D p) n (by omega) fun i h1 h2 => by
      rcases hclass i h1 (by omega) with h | h
      ·exact .inl h
      ·exact zvq (.inr (by rw [← hc2]; exact h))
     rw [hos]
     exact ⟨fun id o hid ho => by rw [yd hid] at ho; exact ho⟩
  obtain ⟨v,h1,h2⟩:=zfI (r':=r') hc hget hlt hst.1 hst.2 (hrr j x hx)
  have hq : ¬ 3 ≤ cls xs j:=by rw [zhq hx]; omega
  have hsame : zpH rr xs p (zba D j) = zpH rr xs p D:=by unfold zpH; rw [zoW hq]
  have hfin : r'.put x.dst v = ⟨za6 rr j :: (ye j).reverse.map (za6 rr),zdP rr xs p (zba D j),zpH rr xs p (zba D j),b,l⟩:=by
   have he:=zow C.w hrr (D:=D) (σ1:=(rr j).st) hj hx (by rw [h1]; rfl)
   have hval : za6 rr j = ((rr j).put x.dst v).rs.headD vun:=by unfold za6; rw [h1]
   rw [he,hsame,hval]
   cases x.dst <;> rfl
  rw [hfin] at h2
  exact zev (r:=r') S R0 F c1 c2 c3 h2 (fun g' w' u H R1 _ F1 => k g' w' u H R1 F1) (fun _ h => h)
 ·
  have heff : 3 ≤ cls xs j:=by rw [zhq hx]; omega
  have hmp:=zod (xs:=xs) D p
  have hmj : zeL xs D p ≤ j:=by
   rcases zn1 (xs:=xs) D p with h | ⟨e,he,hDe,hce⟩
   ·omega
   ·rcases yv e j with h | h | h
    ·omega
    ·rw [h,hDj] at hDe; cases hDe
    ·have hxe : xs[e]? = some (xs[e]'(by omega)):=ya (by omega)
     rcases (C.pair h (by omega) hx hxe).1 with hf | hr
     ·have:=zsd hf.1
      rw [zhq hxe] at hce
      omega
     ·have:=hB e hr
      rw [hDe] at this
      cases this
  have hno : ∀ i,zeL xs D p ≤ i → i < j → ¬ 3 ≤ cls xs i:=fun i h1 h2 h => by
   have hxi : xs[i]? = some (xs[i]'(by omega)):=ya (by omega)
   have hn:=zg8 (xs:=xs) D p i h1 (by omega)
   rcases (C.pair h2 hj hxi hx).1 with hf | hr
   ·have:=zsd hf.1
    rw [zhq hxi] at h
    omega
   ·exact hn ⟨hA i hr,h⟩
  have hst : r'.st = (rr j).st:=by
   show (rr (zeL xs D p)).st = (rr j).st
   obtain ⟨n,hn⟩ : ∃ n,j = zeL xs D p + n:=⟨j - zeL xs D p,by omega⟩
   have:=zn6 hrr (a:=zeL xs D p) n (by omega) fun i h1 h2 => hno i h1 (by omega)
   rw [← hn] at this
   exact this.symm
  obtain ⟨v,σ1,h1,h2,_⟩:=zre (r':=r') hget hst (hrr j x hx)
  have hlast : zeL xs (zba D j) p = j + 1:=ztI heff p hj fun i h3 h4 h5 => by
   have:=zg8 (xs:=xs) D p i (by omega) h4
   exact this h5
  have hnew : zpH rr xs p (zba D j) = σ1:=by
   unfold zpH
   rw [hlast,h1,zeU]
   rfl
  rw [finish h1 hnew] at h2
  exact zev (r:=r') S R0 F c1 c2 c3 h2 (fun g' w' u H R1 _ F1 => k g' w' u H R1 F1) (fun _ h => h)
theorem zCE (hm : P.follows .mixedOrders = true) (Cf : zad) (S : zgX P Cf) (κ : List Tmp) (nt id : Nat) (gops : Array Go.Oper) (xs : List Oper) (hchk : zrP P κ nt gops xs = true) (r r1 : R) (hr0 : r.rs = []) (hsteps : steps Cf xs r = some r1) : zzC P κ nt id gops r r1:=by
 intro g w a Q R0 F hend
 obtain ⟨ms,p,C⟩:=zEN hchk
 obtain ⟨rr,k1,k2,hrr⟩:=zlQ xs r r1 hsteps
 have h0 : (rr 0).rs = []:=by rw [k1]; exact hr0
 have hpN : p ≤ xs.length:=by rw [C.len]; exact C.p_le
 refine wp_region_any hm ?_
 obtain ⟨D1,D2⟩:=drawn R0 1
 have hDof : ∀ i,Dof (yr gops.size false) i = false:=fun i => by
  unfold Dof
  rw [yx,yD]
  split <;> rfl
 have hst0 : zpH rr xs p (Dof (yr gops.size false)) = r.st:=by
  unfold zpH
  rcases zn1 (xs:=xs) (Dof (yr gops.size false)) p with h | ⟨e,_,h,_⟩
  ·rw [h,k1]
  ·rw [hDof] at h; cases h
 have henv0 : ∀ q,(zdP rr xs p (Dof (yr gops.size false))).getD q vun = r.env.getD q vun:=fun q => by
  rw [zgH C.w hrr]
  unfold zg0
  split <;> simp [hDof,k1]
 have hend' : ∀ g' w' a' loc,Ext g w r.st g' w' (rr gops.size).st → Rel g' w' (rr gops.size).st → Fr κ loc nt g' w' (rr gops.size) a' → Q .normal a' w':=fun g' w' a' loc H R1 F1 => by
  rw [← C.len,k2] at H R1 F1
  exact hend g' w' a' loc H R1 F1
 refine zuD (b:=0) (l:=0) (v:=za6 rr) (envD:=zdP rr xs p) (σD:=zpH rr xs p) (g0:=g) (w0:=w) (σ0:=r.st) (rr:=rr) S C.plan (zBe S C hrr h0) hrr (znG hrr h0 p hpN) (fun D => by simp [zdP,k1,F.len]) F.nd F.bd (fun D hD => ⟨?_,?_⟩) hend' gops.size (yr gops.size false) g (w.drewN 1) a (by simp) (fun i _ => hDof i) (fun j hj => by rw [hDof] at hj; cases hj) ?_ ⟨?_,?_,F.size,F.df,fun i t ht => ?_,fun i t _ hD => by rw [hDof] at hD; cases hD⟩
 ·
  unfold zpH
  have hmp:=zod (xs:=xs) D p
  obtain ⟨n,hn⟩ : ∃ n,p = zeL xs D p + n:=⟨p - zeL xs D p,by omega⟩
  have:=zn6 hrr (a:=zeL xs D p) n (by omega) fun i h1 h2 h => zg8 (xs:=xs) D p i h1 (by omega) ⟨by rw [hD]; simp; omega,h⟩
  rw [← hn] at this
  exact this.symm
 ·
  obtain ⟨q1,q2⟩:=zgl C.w hrr p (yk _)
  refine yB fun q => ?_
  by_cases hq : q < (rr 0).env.length
  ·have e1:=zgH (D:=D) (q:=q) C.w hrr
   have e2:=q2 q
   have e3 : zg0 rr xs p D q = zg0 rr xs p (fun k => decide (k < p)) q:=by
    congr 1
    funext k
    exact hD k
   rw [e3,← e2] at e1
   rw [yc,yc] at e1
   have l1 : q < (zdP rr xs p D).length:=by simpa [zdP] using hq
   have l2 : q < (rr p).env.length:=by omega
   rw [ya l1,ya l2] at e1 ⊢
   simpa using e1
  ·rw [yj (by simp [zdP]; omega),yj (by omega)]
 ·
  unfold left
  exact yM (yF _ _) (by simp)
 ·rw [hst0]; exact D1
 ·rw [hst0]; exact D2
 ·rw [hst0,henv0]
  exact D1.zf _ _ (F.env i t ht)
end
end Go.A
namespace Go.A
def zwa : Oper → Bool
 | ⟨.loc,.al _ [],none⟩ => true
 | ⟨.slot _,.al _ [],none⟩ => true
 | ⟨.loc,.mks _ none _,none⟩ => true
 | _ => false
def eff (xs : List Oper) (i : Nat) : Bool:=decide (3 ≤ cls xs i)
def zD0 (ms : List Nat) (xs : List Oper) (p j K : Nat) : Bool:=!(decide (K < p) && bit ms j K) && (ye K).all fun e => !(eff xs e && bit ms e j)
def harmless (xs : List Oper) (p c j K : Nat) : Bool:=(ye p).all fun i => !(eff xs i) || !(decide (min j K ≤ i) && decide (i < max j K)) || cls xs i == 4 || (c == 1 && decide (cls xs i ≤ 4))
def zxg : D → Bool
 | .loc => true
 | _ => false
def zFR : Op → Bool
 | .call _ _ _ => false
 | _ => true
def zuo (ms : List Nat) (xs : List Oper) (ps : List (Nat × Nat)) (p j : Nat) (x : Oper) : Bool :=
 zaR x.op == 0 || decide (3 ≤ zaR x.op) || (ye (p + 1)).all fun K => !(K == p || eff xs K) || !(zD0 ms xs p j K) || harmless xs p (zaR x.op) j K || (ps.contains (j,K) && zxg x.dst && zFR x.op)
def ztk (xs : List Oper) (gops : Array Go.Oper) (j i : Nat) (y : Oper) : Bool:=(zat gops j).contains i || (match (xs[i]?).bind writes with
 | some q => zfn q y
 | none => false)
def zrj (ms : List Nat) (gops : Array Go.Oper) (xs : List Oper) (i j : Nat) : Bool:=match xs[i]?,xs[j]? with
 | some x,some y => (zgb x y || bit ms j i) && (match writes x,writes y with
   | some q,some q' => q != q'
   | _,_ => true) && (!(eff xs i && eff xs j) || zwa y || bit ms j i) && (!(zwa x && ztk xs gops j i y) || (ye i).all fun e => !(eff xs e) || bit ms j e)
 | _,_ => false
def zuW (P : Program) (κ : List Tmp) (nt : Nat) (gops : Array Go.Oper) (ps : List (Nat × Nat)) (xs : List Oper) (ms : List Nat) (p j : Nat) : Bool:=match gops[j]?,xs[j]? with
 | some o,some x => okD κ nt o.dst x.dst && zfJ κ (zff gops xs j) gops o.guard x.guard && zlB P κ (zff gops xs j) o x.dst x.op && (zeF x).all (zxl (zff gops xs j)) && (ye j).all (fun i => zrj ms gops xs i j) && zuo ms xs ps p j x
 | _,_ => false
def zn8 (P : Program) : List Tmp → Nat → Array Go.Oper → List (Nat × Nat) → List Oper → Bool:=fun κ nt gops ps xs =>
 let ms:=zlN gops.toList []
 let p:=zn4 ms gops.size
 ziX gops ms && xs.length == gops.size && decide (p ≤ gops.size) && zjo (zDN gops xs p) && (ye p).all (zuW P κ nt gops ps xs ms p) && (ye gops.size).all fun j => decide (j < p) || zir P κ nt gops xs ms j
structure Chk2 (P : Program) (κ : List Tmp) (nt : Nat) (gops : Array Go.Oper) (ps : List (Nat × Nat)) (xs : List Oper) (ms : List Nat) (p : Nat) : Prop where
 masks : ziX gops ms = true
 len : xs.length = gops.size
 p_le : p ≤ gops.size
 dup : zjo (zDN gops xs p) = true
 pre : ∀ j,j < p → zuW P κ nt gops ps xs ms p j = true
 tail : ∀ j,p ≤ j → j < gops.size → zir P κ nt gops xs ms j = true
section
variable {P : Program} {κ : List Tmp} {nt : Nat} {gops : Array Go.Oper} {ps : List (Nat × Nat)} {xs : List Oper} {ms : List Nat} {p b l : Nat} {Cf : zad} {rr : Nat → R}
theorem zCY (h : zn8 P κ nt gops ps xs = true) : ∃ ms p,Chk2 P κ nt gops ps xs ms p:=by
 unfold zn8 at h
 simp only [yb,beq_iff_eq,decide_eq_true_eq] at h
 obtain ⟨⟨⟨⟨⟨h1,h2⟩,h3⟩,h4⟩,h5⟩,h6⟩:=h
 refine ⟨_,_,h1,h2,h3,h4,fun j hj => yf.1 h5 j (by simpa using hj),fun j hj hlt => ?_⟩
 have:=yf.1 h6 j (by simpa using hlt)
 simp only [yl,decide_eq_true_eq] at this
 rcases this with h | h
 ·omega
 ·exact h
theorem Chk2.pre_some (C : Chk2 P κ nt gops ps xs ms p) {j : Nat} (hj : j < p) {o : Go.Oper} {x : Oper} (ho : gops[j]? = some o) (hx : xs[j]? = some x) :
  okD κ nt o.dst x.dst = true ∧ zfJ κ (zff gops xs j) gops o.guard x.guard = true ∧ zlB P κ (zff gops xs j) o x.dst x.op = true ∧ (∀ y ∈ zeF x,zxl (zff gops xs j) y = true) ∧ (∀ i,i < j → zrj ms gops xs i j = true) ∧ zuo ms xs ps p j x = true:=by
 have h:=C.pre j hj
 unfold zuW at h
 rw [ho,hx] at h
 simp only [yb] at h
 obtain ⟨⟨⟨⟨⟨h1,h2⟩,h3⟩,h4⟩,h5⟩,h6⟩:=h
 exact ⟨h1,h2,h3,fun y hy => yf.1 h4 y hy,fun i hi => yf.1 h5 i (by simpa using hi),h6⟩
theorem Chk2.plan (C : Chk2 P κ nt gops ps xs ms p) : Plan P κ nt gops xs p where
 len:=C.len
 p_le:=C.p_le
 back:=fun j o ho i hi => by
  have hj : j < gops.size:=(yi.1 ho).1
  exact (zkc C.masks hj).2 i (by unfold zat; rw [ho]; exact hi)
 pre:=fun j o x hj ho hx => (C.pre_some hj ho hx).1
 apart:=fun i j t hi hj h1 h2 => zj8 C.dup yO i (by simpa using hi) j (by simpa using hj) t h1 h2
 tail:=fun j o x hj ho hx => by
  have hlt : j < gops.size:=(yi.1 ho).1
  have h:=C.tail j hj hlt
  unfold zir at h
  rw [ho,hx] at h
  simp only [yb] at h
  obtain ⟨⟨⟨h1,h2⟩,h3⟩,h4⟩:=h
  exact ⟨h1,h2,h3,fun i hi => ze0 C.masks j hlt (yf.1 h4 i (by simpa using hi))⟩
theorem Chk2.pair (C : Chk2 P κ nt gops ps xs ms p) {i j : Nat} (hij : i < j) (hj : j < p) {x y : Oper} (hx : xs[i]? = some x) (hy : xs[j]? = some y) :
  (zgb x y = true ∨ Reach gops j i) ∧ (∀ q,writes x = some q → writes y ≠ some q) ∧ (eff xs i = true → eff xs j = true → zwa y = true ∨ Reach gops j i) ∧
  (zwa x = true → ztk xs gops j i y = true → ∀ e,e < i → eff xs e = true → Reach gops j e):=by
 have hlt : j < gops.size:=yn hj C.p_le
 have h:=(C.pre_some hj (ym hlt) hy).2.2.2.2.1 i hij
 unfold zrj at h
 rw [hx,hy] at h
 simp only [yb,yl] at h
 obtain ⟨⟨⟨h1,h2⟩,h3⟩,h4⟩:=h
 refine ⟨h1.imp id fun h => ze0 C.masks j hlt h,fun q hq hq' => ?_,fun he1 he2 => ?_,fun ha hu e he hee => ?_⟩
 ·rw [hq,hq'] at h2
  simp at h2
 ·rcases h3 with (h3 | h3) | h3
  ·simp [he1,he2] at h3
  ·exact .inl h3
  ·exact .inr (ze0 C.masks j hlt h3)
 ·rcases h4 with h4 | h4
  ·simp [ha,hu] at h4
  ·have:=yf.1 h4 e (by simpa using he)
   simp only [yl,yp] at this
   rcases this with h | h
   ·rw [hee] at h; cases h
   ·exact ze0 C.masks j hlt h
theorem Chk2.w (C : Chk2 P κ nt gops ps xs ms p) : ChkW xs p:=⟨by rw [C.len]; exact C.p_le,fun hij hj _ _ hx hy => (C.pair hij hj hx hy).2.1⟩
def vis (xs : List Oper) (D : Nat → Bool) (K k : Nat) : Bool:=D k && (!(eff xs k) || decide (k < K))
def zdO (rr : Nat → R) (xs : List Oper) (p : Nat) (D : Nat → Bool) (K q : Nat) : V:=match wr xs p q with
 | some k => if vis xs D K k then (rr (k + 1)).env.getD q vun else if D k then vun else (rr 0).env.getD q vun
 | none => (rr 0).env.getD q vun
def zoc (rr : Nat → R) (xs : List Oper) (p : Nat) (D : Nat → Bool) (K : Nat) : List V:=(ye (rr 0).env.length).map (zdO rr xs p D K)
theorem zl2 {D : Nat → Bool} {K q : Nat} (C : ChkW xs p) (hrr : ∀ i x,xs[i]? = some x → step Cf (rr i) x = some (rr (i + 1))) : (zoc rr xs p D K).getD q vun = zdO rr xs p D K q:=by
 unfold zoc
 by_cases hq : q < (rr 0).env.length
 ·simp [yc,hq]
 ·have e0 : (rr 0).env.getD q vun = vun:=by simp [yc,hq]
  have e1 : ((ye (rr 0).env.length).map (zdO rr xs p D K)).getD q vun = vun:=by simp [yc,hq]
  rw [e1]
  unfold zdO
  split
  ·rename_i k hk
   obtain ⟨q1,_⟩:=zgk hk
   have hl:=(zgl C hrr (k + 1) (by omega)).1
   split
   ·simp [yc,hl,hq]
   ·split
    ·rfl
    ·exact e0.symm
  ·exact e0.symm
inductive Mk where
 | ptr
 | own (n : Nat)
def Mk.v (id : Nat) : Mk → V
 | .ptr => .one (.ptr (id + 0) 0 0 0)
 | .own n => .one (.own id 0 0 n)
def Mk.u (b : Nat) : Mk → Value
 | .ptr => .pointer (some ⟨b,0,none⟩)
 | .own n => .slice (some ⟨b,0,none⟩) n n
def Mk.ok (sz : Nat) (es : List (List C)) : Mk → Prop
 | .ptr => es.length = 1
 | .own n => es.length = n
structure Raw (P : Program) (gops : Array Go.Oper) (xs : List Oper) (rr : Nat → R) (w0 : World) (g : G) (w : World) (a : Act) (i b : Nat) : Prop where
 it : ∃ (o : Go.Oper) (x : Oper) (sz : Nat) (es : List (List C)) (arr : Array Value) (ty : TypeId) (t : Tmp) (kd : Mk),gops[i]? = some o ∧ xs[i]? = some x ∧ zwa x = true ∧ o.dst = some t ∧ w.heap[b]? = some (.cells arr ty) ∧ a.tmps.getD t undef = kd.u b ∧
  arr.size = es.length * sz ∧ (∀ g w σ,zca g w σ arr sz es) ∧ kd.ok sz es ∧ rr (i + 1) = ((rr i).at ((rr i).st ++ [.cells 0 sz es])).put x.dst (kd.v (rr i).st.length)
 ow : g.ow b = .no
 no : ∀ o,¬ g.N b o
 new : w0.heap.size ≤ b
structure Mid2 (P : Program) (gops : Array Go.Oper) (xs : List Oper) (κ : List Tmp) (nt p : Nat) (rr : Nat → R) (g0 : G) (w0 : World) (σ0 : zd) (D : Nat → Bool) (K : Nat) (B : Nat → Nat) (g : G) (w : World) (a : Act) : Prop where
 ext : Ext g0 w0 σ0 g w (rr K).st
 rel : Rel g w (rr K).st
 size : a.tmps.size = nt
 df : a.defers = []
 slot : ∀ (i : Nat) (t : Tmp),κ[i]? = some t → zf g w (rr K).st (zdO rr xs p D K i) (a.tmps.getD t undef)
 done : ∀ i t,i < p → vis xs D K i = true → lo gops xs i = some t → zf g w (rr K).st (za6 rr i) (a.tmps.getD t undef)
 kp : K ≤ p
 before : ∀ i,i < K → eff xs i = true → D i = true
 raw : ∀ i,i < p → D i = true → vis xs D K i = false → Raw P gops xs rr w0 g w a i (B i)
 inj : ∀ i j,i < p → j < p → D i = true → vis xs D K i = false → D j = true → vis xs D K j = false → B i = B j → i = j
theorem zko {D : Nat → Bool} {K i : Nat} (h : i ≠ K) : vis xs D (K + 1) i = vis xs D K i:=by
 unfold vis
 have : decide (i < K + 1) = decide (i < K):=by
  simp only [decide_eq_decide]
  omega
 rw [this]
theorem zeR {D : Nat → Bool} {K i : Nat} (h : eff xs K = false) : vis xs D (K + 1) i = vis xs D K i:=by
 by_cases e : i = K
 ·subst e
  unfold vis
  simp [h]
 ·exact zko e
theorem zFy {g g0 : G} {w w0 : World} {σ σ0 : zd} (R : Rel g w σ) (H0 : Ext g0 w0 σ0 g w σ) {b : Nat} {ty : TypeId} {arr : Array Value} {sz : Nat} {es : List (List C)} {kd : Mk} (hsz : arr.size = es.length * sz) (hrow : ∀ g w σ,zca g w σ arr sz es) (hkd : kd.ok sz es) (hb : w.heap[b]? = some (.cells arr ty))
  (ho : g.ow b = .no) (hN : ∀ o,¬ g.N b o) (hb0 : w0.heap.size ≤ b) :
  Ext g0 w0 σ0 (g.own σ.length b) w (σ ++ [.cells 0 sz es]) ∧ Rel (g.own σ.length b) w (σ ++ [.cells 0 sz es]) ∧
  (∀ v u,zf g w σ v u → zf (g.own σ.length b) w (σ ++ [.cells 0 sz es]) v u) ∧
  zf (g.own σ.length b) w (σ ++ [.cells 0 sz es]) (kd.v σ.length) (kd.u b):=by
 let g1 : G:={ g with ow:=zxB g.ow b (.ob σ.length) }
 have R1 : Rel g1 w σ:=zy5 R rfl rfl rfl (fun b' id _ h => by
  by_cases e : b' = b
  ·subst e; rw [ho] at h; cases h
  ·exact (zaF g.ow _ e).trans h) (fun b' t k _ h => by
  by_cases e : b' = b
  ·subst e; rw [ho] at h; cases h
  ·exact (zaF g.ow _ e).trans h)
 have H1 : Ext g0 w0 σ0 g1 w σ:={ H0 with ow:=fun b' hb' => (zaF g.ow _ (by omega)).trans (H0.ow b' hb') }
 have hlt : b < w.heap.size:=(yi.1 hb).1
 have H2 : Ext g1 w σ (g.own σ.length b) w (σ ++ [.cells 0 sz es]):={
  os:=rfl
  tape:=rfl
  output:=rfl
  size:=yk _
  keeps:=fun _ _ h => ⟨h,rfl⟩
  len:=by simp
  shape:=fun id ver sz len h => by
   obtain ⟨es,h1,h2⟩:=zaL h
   have hl:=zb h1
   exact .inl ⟨by unfold shapeOf; rw [yd hl]; exact h,zaF g.ρ _ (by omega),fun _ arr t ha => ⟨arr,ha,rfl⟩⟩
  map:=fun id es h => ⟨zaF g.ρ _ (by have:=zb h; omega),es,by rw [yd (zb h)]; exact h⟩
  tok:=fun t k n h => by
   obtain ⟨sz,fr,h1,h2⟩:=zcS h
   exact ⟨n,zdE (by rw [yd (zb h1)]; exact h1) h2,yk _,fun _ => rfl⟩
  tsz:=fun t sz h => by
   obtain ⟨fr,h1⟩:=zet h
   exact zbV (fr:=fr) (by rw [yd (zb h1)]; exact h1)
  ow:=fun _ _ => rfl
  new:=fun _ _ h _ _ => h
  frame:=fun _ _ _ => rfl }
 refine ⟨H1.trans H2,⟨R.nb,fun id ob h => ?_⟩,fun v u h => H2.zf _ _ (zg1 (g:=g) (g':=g1) rfl rfl rfl v u h),?_⟩
 ·by_cases hl : id < σ.length
  ·rw [yd hl] at h
   exact zcM H2 (zaF g.ρ _ (by omega)) (fun _ => rfl) (fun b' _ _ => ⟨rfl,rfl,fun _ h => h⟩) (R1.ob id ob h)
  ·have hid : id = σ.length:=by
    have:=zb h
    simp at this
    omega
   subst hid
   simp at h
   subst h
   exact fun _ => ⟨by simp [G.own],fun o => by simp [G.own]; exact hN o,arr,ty,by simpa [G.own] using hb,by omega,hrow _ _ _⟩
 ·cases kd with
  | ptr =>
    simp only [Mk.v,Mk.u,zf,zw,Nat.add_zero]
    exact ⟨0,sz,es.length,zn (zj6 σ _),yk _,fun _ => by simp [G.own],_,rfl⟩
  | own n =>
    simp only [Mk.ok] at hkd
    subst hkd
    simp only [Mk.v,Mk.u,zf,zw]
    refine ⟨0,sz,es.length,zn (zj6 σ _),yk _,fun _ => ⟨_,_,rfl,yk _,fun h => h,fun _ => ⟨by omega,fun _ => by simp [G.own],arr,ty,?_,by rw [Nat.zero_add]; omega⟩⟩,_,_,rfl⟩
    simpa [G.own] using hb
end
end Go.A
namespace Go.A
section
variable {P : Program} {κ : List Tmp} {nt : Nat} {gops : Array Go.Oper} {ps : List (Nat × Nat)} {xs : List Oper} {ms : List Nat} {p b l : Nat} {Cf : zad} {rr : Nat → R} {g0 : G} {w0 : World} {σ0 : zd}
theorem zqo {x : Oper} {q : Nat} (h : writes x = some q) : x.dst = .slot q:=by
 obtain ⟨d,op,gd⟩:=x
 cases d <;> simp [writes] at h
 subst h
 rfl
theorem zgB {x : Oper} {q : Nat} (h : x.dst = .slot q) : writes x = some q:=by
 obtain ⟨d,op,gd⟩:=x
 simp only at h
 subst h
 rfl
theorem zsJ {α : Type} {l : List α} (hn : l.Nodup) {i j : Nat} {x : α} (h1 : l[i]? = some x) (h2 : l[j]? = some x) : i = j:=by
 induction l generalizing i j with
 | nil => simp at h1
 | cons y l ih =>
   rw [yS] at hn
   cases i with
   | zero =>
     cases j with
     | zero => rfl
     | succ j =>
       simp at h1 h2
       subst h1
       exact absurd (yq h2) hn.1
   | succ i =>
     cases j with
     | zero =>
       simp at h1 h2
       subst h2
       exact absurd (yq h1) hn.1
     | succ j =>
       simp at h1 h2
       rw [ih hn.2 h1 h2]
theorem zhW {x : Oper} (h : zwa x = true) : x.guard = none ∧ (x.dst = .loc ∨ ∃ q,x.dst = .slot q) ∧ ((∃ zero,x.op = .al zero []) ∨ ∃ zero n,x.op = .mks zero none n):=by
 unfold zwa at h
 split at h
 all_goals first | exact ⟨rfl,.inl rfl,.inl ⟨_,rfl⟩⟩ | exact ⟨rfl,.inr ⟨_,rfl⟩,.inl ⟨_,rfl⟩⟩ | exact ⟨rfl,.inl rfl,.inr ⟨_,_,rfl⟩⟩ | cases h
theorem zC1 {r r1 : R} {x : Oper} {zero : List C} (h : zwa x = true) (hop : x.op = .al zero []) (hs : step Cf r x = some r1) :
  r1 = (r.at (r.st ++ [.cells 0 zero.length [zero]])).put x.dst (.one (.ptr (r.st.length + 0) 0 0 0)):=by
 obtain ⟨h1,_,_⟩:=zhW h
 obtain ⟨d,op,gd⟩:=x
 simp only at h1 hop
 subst h1 hop
 simp only [step,za5,Option.some.injEq] at hs
 rw [← hs]
 simp [aal,tokens,zf4,R.allocs,R.at]
theorem zDw {r r1 : R} {x : Oper} {zero : List C} {n : X} (h : zwa x = true) (hop : x.op = .mks zero none n) (hs : step Cf r x = some r1) :
  ∃ kk m,r.get n = .one (.f (.lit (.int kk m))) ∧ 0 ≤ m ∧ m ≤ LIM ∧ r1 = (r.at (r.st ++ [.cells 0 zero.length (yE m.toNat zero)])).put x.dst (.one (.own r.st.length 0 0 m.toNat)):=by
 obtain ⟨h1,_,_⟩:=zhW h
 obtain ⟨d,op,gd⟩:=x
 simp only at h1 hop
 subst h1 hop
 simp only [step,za5] at hs
 unfold zDU at hs
 split at hs
 ·rename_i hv
  split at hs
  ·rename_i hm
   injection hs with hs
   exact ⟨_,_,hv,hm.1,hm.2,hs.symm⟩
  ·cases hs
 ·contradiction
 ·cases hs
theorem ztr (hrr : ∀ i x,xs[i]? = some x → step Cf (rr i) x = some (rr (i + 1))) {K : Nat} (hK : K < xs.length) (he : eff xs K = false) : (rr (K + 1)).st = (rr K).st :=
 zn6 hrr (a:=K) 1 (by omega) fun k h1 h2 h => by
  have : k = K:=by omega
  subst this
  unfold eff at he
  simp [h] at he
theorem zCf (C : Chk2 P κ nt gops ps xs ms p) (hrr : ∀ i x,xs[i]? = some x → step Cf (rr i) x = some (rr (i + 1))) (henv : (rr 0).env.length = κ.length) {D : Nat → Bool} {K : Nat} {B : Nat → Nat} {g : G} {w : World} {a : Act}
  (M : Mid2 P gops xs κ nt p rr g0 w0 σ0 D K B g w a) (hK : K < p) (h : eff xs K = false ∨ D K = true) : ∃ g',Mid2 P gops xs κ nt p rr g0 w0 σ0 D (K + 1) B g' w a:=by
 have hKl : K < xs.length:=yn hK C.w.le
 cases he : eff xs K with
 | false =>
   have hst:=ztr hrr hKl he
   have henv : ∀ q,zdO rr xs p D (K + 1) q = zdO rr xs p D K q:=fun q => by
    unfold zdO
    split
    ·rw [zeR he]
    ·rfl
   refine ⟨g,⟨by rw [hst]; exact M.ext,by rw [hst]; exact M.rel,M.size,M.df,fun i t ht => by rw [hst,henv]; exact M.slot i t ht,fun i t hi hv ht => by rw [hst]; exact M.done i t hi (by rw [← zeR he]; exact hv) ht,hK,fun i hi hei => ?_,
    fun i hi hD hv => M.raw i hi hD (by rw [← zeR he]; exact hv),fun i j hi hj hDi hvi hDj hvj => M.inj i j hi hj hDi (by rw [← zeR he]; exact hvi) hDj (by rw [← zeR he]; exact hvj)⟩⟩
   by_cases e : i = K
   ·subst e; rw [he] at hei; cases hei
   ·exact M.before i (by omega) hei
 | true =>
   have hD : D K = true:=by
    rcases h with h | h
    ·rw [he] at h; cases h
    ·exact h
   have hvK : vis xs D K K = false:=by simp [vis,he]
   obtain ⟨⟨o,x,sz,es,arr,ty,t,kd,ho,hx,hal,hdst,hb,hptr,hz,hrow,hkd,hstep⟩,how,hno,hnew⟩:=M.raw K hK hD hvK
   obtain ⟨hg,hd,_⟩:=zhW hal
   obtain ⟨H1,R1,hv,hp⟩:=zFy M.rel M.ext hz hrow hkd hb how hno hnew
   have hst : (rr (K + 1)).st = (rr K).st ++ [.cells 0 sz es]:=by rw [hstep,zeU]; rfl
   rw [← hst] at H1 R1 hv hp
   have hlt : K < gops.size:=by rw [← C.len]; exact hKl
   have hod:=(C.pre_some hK ho hx).1
   rw [hdst] at hod
   have hvis1 : vis xs D (K + 1) K = true:=by simp [vis,hD]
   refine ⟨_,⟨H1,R1,M.size,M.df,fun q t' ht' => ?_,fun i t' hi hvi ht' => ?_,hK,fun i hi hei => ?_,fun i hi hDi hvi => ?_,fun i j hi hj hDi hvi hDj hvj hB => ?_⟩⟩
   ·
    by_cases hw : wr xs p q = some K
    ·have hw':=zgk hw
     obtain ⟨_,x',hx',hwx⟩:=hw'
     rw [hx] at hx'
     injection hx' with hx'
     subst hx'
     unfold zdO
     rw [hw]
     simp only [hvis1,if_true]
     have hds : x.dst = .slot q:=by
      exact zqo hwx
     rw [hds] at hod
     simp only [okD,beq_iff_eq] at hod
     rw [ht'] at hod
     injection hod with hod
     subst hod
     rw [hptr]
     have hlen : q < (rr K).env.length:=by
      rw [(zgl C.w hrr K (yz hK)).1,henv]
      exact zb ht'
     have : (rr (K + 1)).env.getD q vun = kd.v (rr K).st.length:=by
      rw [hstep,hds]
      simp [R.put,R.at,yc,hlen]
     rw [this]
     exact hp
    ·have : zdO rr xs p D (K + 1) q = zdO rr xs p D K q:=by
      unfold zdO
      split
      ·rename_i k hk
       rw [zko (fun e => by subst e; exact hw hk)]
      ·rfl
     rw [this]
     exact hv _ _ (M.slot q t' ht')
   ·by_cases e : i = K
    ·subst e
     have hl : lo gops xs i = zaS o.dst x.dst:=by unfold lo; rw [ho,hx]
     rw [hl,hdst] at ht'
     rcases hd with hd | ⟨q,hd⟩
     ·rw [hd] at ht'
      simp only [zaS,Option.some.injEq] at ht'
      subst ht'
      rw [hptr]
      have : za6 rr i = kd.v (rr i).st.length:=by
       unfold za6
       rw [hstep,hd]
       rfl
      rw [this]
      exact hp
     ·rw [hd] at ht'
      simp [zaS] at ht'
    ·rw [zko e] at hvi
     exact hv _ _ (M.done i t' hi hvi ht')
   ·by_cases e : i = K
    ·subst e; exact hD
    ·exact M.before i (by omega) hei
   ·have e : i ≠ K:=fun e => by subst e; rw [hvis1] at hvi; cases hvi
    rw [zko e] at hvi
    have hne : B i ≠ B K:=fun hB => e (M.inj i K hi hK hDi hvi hD hvK hB)
    obtain ⟨k1,k2,k3,k4⟩:=M.raw i hi hDi hvi
    exact ⟨k1,(zaF g.ow _ hne).trans k2,k3,k4⟩
   ·have e1 : i ≠ K:=fun e => by subst e; rw [hvis1] at hvi; cases hvi
    have e2 : j ≠ K:=fun e => by subst e; rw [hvis1] at hvj; cases hvj
    rw [zko e1] at hvi
    rw [zko e2] at hvj
    exact M.inj i j hi hj hDi hvi hDj hvj hB
def zx8 (xs : List Oper) (p : Nat) (D : Nat → Bool) (K : Nat) : Prop:=K = p ∨ (eff xs K = true ∧ D K = false)
theorem zx7 (C : Chk2 P κ nt gops ps xs ms p) (hrr : ∀ i x,xs[i]? = some x → step Cf (rr i) x = some (rr (i + 1))) (henv : (rr 0).env.length = κ.length) {D : Nat → Bool} {B : Nat → Nat} {w : World} {a : Act} : ∀ (n K : Nat) (g : G),p - K = n →
  Mid2 P gops xs κ nt p rr g0 w0 σ0 D K B g w a → ∃ K' g',Mid2 P gops xs κ nt p rr g0 w0 σ0 D K' B g' w a ∧ zx8 xs p D K'
 | 0,K,g,hn,M => ⟨K,g,M,.inl (by have:=M.kp; omega)⟩
 | n + 1,K,g,hn,M => by
   by_cases h : eff xs K = false ∨ D K = true
   ·obtain ⟨g',M'⟩:=zCf C hrr henv M (by omega) h
    exact zx7 C hrr henv n (K + 1) g' (by omega) M'
   ·simp only [not_or,yN,yQ] at h
    exact ⟨K,g,M,.inr h⟩
theorem zAE {D : Nat → Bool} {K j : Nat} (hS : zx8 xs p D K) (h : D j = true) (hj : j < p) (he : eff xs j = true) : j ≠ K:=fun e => by
 subst e
 rcases hS with hS | ⟨_,hS⟩
 ·omega
 ·rw [h] at hS; cases hS
theorem Raw.ext {g g' : G} {w w' : World} {a a' : Act} {σ σ' : zd} {i b : Nat} (h : Raw P gops xs rr w0 g w a i b) (H : Ext g w σ g' w' σ') (ht : ∀ t,(∃ o,gops[i]? = some o ∧ o.dst = some t) → a'.tmps.getD t undef = a.tmps.getD t undef) : Raw P gops xs rr w0 g' w' a' i b:=by
 obtain ⟨⟨o,x,sz,es,arr,ty,t,kd,h1,h2,h3,h6,h7,h8,k⟩,h9,h10,h11⟩:=h
 have hlt : b < w.heap.size:=(yi.1 h7).1
 exact ⟨⟨o,x,sz,es,arr,ty,t,kd,h1,h2,h3,h6,(H.frame b hlt h9).trans h7,(ht t ⟨o,h1,h6⟩).trans h8,k⟩,(H.ow b hlt).trans h9,fun o ho => h10 o (H.new b o ho hlt h9),h11⟩
def zmK (gops : Array Go.Oper) (i : Nat) : Option Tmp:=(gops[i]?).bind (·.dst)
theorem ztc (C : Chk2 P κ nt gops ps xs ms p) (hnd : κ.Nodup) {i j : Nat} (hi : i < p) (hj : j < p) (hne : i ≠ j) {t : Tmp} (h1 : zmK gops i = some t) (h2 : zmK gops j = some t) : False:=by
 have hil : i < gops.size:=yn hi C.p_le
 have hjl : j < gops.size:=yn hj C.p_le
 have hoi : gops[i]? = some gops[i]:=ym hil
 have hoj : gops[j]? = some gops[j]:=ym hjl
 have hxi : xs[i]? = some (xs[i]'(by rw [C.len]; exact hil)):=ya (by rw [C.len]; exact hil)
 have hxj : xs[j]? = some (xs[j]'(by rw [C.len]; exact hjl)):=ya (by rw [C.len]; exact hjl)
 have di:=(C.pre_some hi hoi hxi).1
 have dj:=(C.pre_some hj hoj hxj).1
 unfold zmK at h1 h2
 rw [hoi] at h1
 rw [hoj] at h2
 simp only [yo] at h1 h2
 rw [h1] at di
 rw [h2] at dj
 cases hdi : (xs[i]'(by rw [C.len]; exact hil)).dst with
 | no => rw [hdi] at di; simp [okD] at di
 | loc =>
   rw [hdi] at di
   cases hdj : (xs[j]'(by rw [C.len]; exact hjl)).dst with
   | no => rw [hdj] at dj; simp [okD] at dj
   | loc =>
     have e1 : lo gops xs i = some t:=by unfold lo; rw [hoi,hxi]; simp [zaS,h1,hdi]
     have e2 : lo gops xs j = some t:=by unfold lo; rw [hoj,hxj]; simp [zaS,h2,hdj]
     exact hne (C.plan.apart i j t hi hj e1 e2)
   | slot q =>
     rw [hdj] at dj
     simp only [okD,beq_iff_eq] at dj
     simp only [okD,yb,yp] at di
     have : t ∈ κ:=yq dj
     simp [this] at di
 | slot q =>
   rw [hdi] at di
   simp only [okD,beq_iff_eq] at di
   cases hdj : (xs[j]'(by rw [C.len]; exact hjl)).dst with
   | no => rw [hdj] at dj; simp [okD] at dj
   | loc =>
     rw [hdj] at dj
     simp only [okD,yb,yp] at dj
     have : t ∈ κ:=yq di
     simp [this] at dj
   | slot q' =>
     rw [hdj] at dj
     simp only [okD,beq_iff_eq] at dj
     have hqq : q = q':=zsJ hnd di dj
     subst hqq
     rcases yK hne with h | h
     ·exact (C.pair h hj hxi hxj).2.1 q (zgB hdi) (zgB hdj)
     ·exact (C.pair h hi hxj hxi).2.1 q (zgB hdj) (zgB hdi)
theorem zmk {a : Act} {d : Option Tmp} {u : Value} {t : Tmp} (h : d ≠ some t) : (a.put d u).tmps.getD t undef = a.tmps.getD t undef:=by
 cases d with
 | none => rfl
 | some t' =>
   simp only [Act.put,zhm]
   rw [if_neg (fun e => h (by rw [e.1]))]
end
end Go.A
namespace Go.A
section
variable {P : Program} {κ : List Tmp} {nt : Nat} {gops : Array Go.Oper} {ps : List (Nat × Nat)} {xs : List Oper} {ms : List Nat} {p b l : Nat} {Cf : zad} {rr : Nat → R} {g0 : G} {w0 : World} {σ0 : zd}
theorem zCu (C : Chk2 P κ nt gops ps xs ms p) {D : Nat → Bool} {K j i : Nat} (hcl : zhk gops D) (hE : ∀ i ∈ zat gops j,D i = true) (hS : zx8 xs p D K) (hij : i < j) (hj : j < p) {x y : Oper} (hx : xs[i]? = some x) (hy : xs[j]? = some y) (hD : D i = true)
  (hu : zwa x = true → ztk xs gops j i y = true) : vis xs D K i = true:=by
 cases he : eff xs i with
 | false => simp [vis,hD,he]
 | true =>
   have hne:=zAE hS hD (by omega) he
   have hlt : i < K:=by
    rcases yv i K with h | h | h
    ·exact h
    ·exact absurd h hne
    ·rcases hS with hS | ⟨hS1,hS2⟩
     ·omega
     ·have hKl : K < xs.length:=by have:=C.w.le; omega
      have hxK : xs[K]? = some xs[K]:=ya hKl
      rcases (C.pair h (by omega) hxK hx).2.2.1 hS1 he with hal | hr
      ·have:=(C.pair hij hj hx hy).2.2.2 hal (hu hal) K h hS1
       have:=za0 hcl this hE
       rw [hS2] at this; cases this
      ·have:=za0 hcl hr (hcl i hD)
       rw [hS2] at this; cases this
   simp [vis,hD,hlt]
theorem zql (C : Chk2 P κ nt gops ps xs ms p) (hrr : ∀ i x,xs[i]? = some x → step Cf (rr i) x = some (rr (i + 1))) (henv : (rr 0).env.length = κ.length) (hnd : κ.Nodup) (hbd : ∀ t ∈ κ,t < nt) {D : Nat → Bool} {K j : Nat} {B : Nat → Nat} {g : G} {w : World} {a : Act}
  (hj : j ≤ p) (f : Nat → Option Tmp) (hf : ∀ i t,i < j → f i = some t → vis xs D K i = true ∧ lo gops xs i = some t) (M : Mid2 P gops xs κ nt p rr g0 w0 σ0 D K B g w a) :
  Fr κ ((ye j).reverse.map f) nt g w ⟨(ye j).reverse.map (za6 rr),zoc rr xs p D K,(rr K).st,b,l⟩ a:=by
 refine ⟨M.size,by simp [zoc,henv],fun i t ht => by simp only [zl2 C.w hrr]; exact M.slot i t ht,fun d t hd _ => ?_,fun d t hd => ?_,hnd,hbd,M.df⟩
 ·have hdj : d < j:=by have:=zb hd; simpa using this
  rw [zjh f hdj] at hd
  injection hd with hd
  obtain ⟨h1,h2⟩:=hf _ t (by omega) hd
  simp only [yc,zjh (za6 rr) hdj,Option.getD_some]
  exact M.done _ t (by omega) h1 h2
 ·have hdj : d < j:=by have:=zb hd; simpa using this
  rw [zjh f hdj] at hd
  injection hd with hd
  obtain ⟨_,h2⟩:=hf _ t (by omega) hd
  exact zoM C.plan (by omega : j - 1 - d < p) h2
theorem zoK {D : Nat → Bool} {K K1 j i : Nat} (h : (K1 = K ∧ eff xs j = false) ∨ (K1 = K + 1 ∧ j = K)) : vis xs (zba D j) K1 i = if i = j then true else vis xs D K i:=by
 by_cases e : i = j
 ·subst e
  rw [if_pos rfl]
  rcases h with ⟨_,h⟩ | ⟨rfl,rfl⟩
  ·simp [vis,zba,h]
  ·simp [vis,zba]
 ·rw [if_neg e]
  have : zba D j i = D i:=by simp [zba,e]
  unfold vis
  rw [this]
  rcases h with ⟨rfl,_⟩ | ⟨rfl,rfl⟩
  ·rfl
  ·have : decide (i < j + 1) = decide (i < j):=by
    simp only [decide_eq_decide]
    omega
   rw [this]
theorem ztp (C : Chk2 P κ nt gops ps xs ms p) (hrr : ∀ i x,xs[i]? = some x → step Cf (rr i) x = some (rr (i + 1))) (henv : (rr 0).env.length = κ.length) (hnd : κ.Nodup) {D : Nat → Bool} {K K1 j : Nat} {B : Nat → Nat} {g g' : G} {w w' : World} {a : Act} {u : Value} {o : Go.Oper} {x : Oper} {v : V} {σ1 : zd}
  (M : Mid2 P gops xs κ nt p rr g0 w0 σ0 D K B g w a) (hK : (K1 = K ∧ eff xs j = false) ∨ (K1 = K + 1 ∧ j = K)) (hj : j < p) (hDj : D j = false) (ho : gops[j]? = some o) (hx : xs[j]? = some x) (hv : rr (j + 1) = ((rr j).at σ1).put x.dst v)
  (H : Ext g w (rr K).st g' w' (rr K1).st) (R1 : Rel g' w' (rr K1).st)
  (F : Fr κ (zaS o.dst x.dst :: zff gops xs j) nt g' w' ((⟨(ye j).reverse.map (za6 rr),zoc rr xs p D K,(rr K1).st,b,l⟩ : R).put x.dst v) (a.put o.dst u)) :
  Mid2 P gops xs κ nt p rr g0 w0 σ0 (zba D j) K1 B g' w' (a.put o.dst u):=by
 have hval : x.dst = .loc → za6 rr j = v:=fun h => by unfold za6; rw [hv,h]; rfl
 have hod:=(C.pre_some hj ho hx).1
 have hkp : K1 ≤ p:=by
  rcases hK with ⟨rfl,_⟩ | ⟨rfl,rfl⟩
  ·exact M.kp
  ·omega
 have hfst : ((⟨(ye j).reverse.map (za6 rr),zoc rr xs p D K,(rr K1).st,b,l⟩ : R).put x.dst v).st = (rr K1).st:=zeU _ _ _
 have hold : ∀ i,i ≠ j → i < p → vis xs (zba D j) K1 i = vis xs D K i:=fun i hi _ => by rw [zoK hK,if_neg hi]
 have htmp : ∀ i,i ≠ j → i < p → ∀ t,zmK gops i = some t → (a.put o.dst u).tmps.getD t undef = a.tmps.getD t undef:=fun i hi hip t ht => zmk fun e =>
  ztc C hnd hip hj hi ht (by unfold zmK; rw [ho]; exact e)
 refine ⟨M.ext.trans H,R1,F.size,F.df,fun q t ht => ?_,fun i t hi hvi ht => ?_,hkp,fun i hi hei => ?_,fun i hi hDi hvi => ?_,fun i i' hi hi' hDi hvi hDi' hvi' hB => ?_⟩
 ·have hf:=F.env q t ht
  rw [hfst] at hf
  have e : ((⟨(ye j).reverse.map (za6 rr),zoc rr xs p D K,(rr K1).st,b,l⟩ : R).put x.dst v).env.getD q vun = zdO rr xs p (zba D j) K1 q:=by
   by_cases hw : writes x = some q
   ·have hd:=zqo hw
    rw [hd]
    have hq : q < (rr 0).env.length:=by rw [henv]; exact zb ht
    have hql : q < (rr j).env.length:=by rw [(zgl C.w hrr j (yz hj)).1]; exact hq
    have hwr:=zBG C.w hj hx hw
    unfold zdO
    rw [hwr]
    simp only [zoK hK,if_true]
    rw [hv,hd]
    simp [R.put,R.at,yc,zoc,hq,hql]
   ·have e1 : ((⟨(ye j).reverse.map (za6 rr),zoc rr xs p D K,(rr K1).st,b,l⟩ : R).put x.dst v).env.getD q vun = (zoc rr xs p D K).getD q vun:=by
     cases hd : x.dst with
     | no => rfl
     | loc => rfl
     | slot q' =>
       have hne : q' ≠ q:=fun e => hw (by rw [← e]; exact zgB hd)
       simp only [R.put,yc,yw hne]
    rw [e1,zl2 C.w hrr]
    unfold zdO
    split
    ·rename_i k hk
     obtain ⟨k1,x',k2,k3⟩:=zgk hk
     have hne : k ≠ j:=fun e => by subst e; rw [hx] at k2; injection k2 with k2; subst k2; exact hw k3
     have : zba D j k = D k:=by simp [zba,hne]
     rw [hold k hne k1,this]
    ·rfl
  rw [e] at hf
  exact hf
 ·by_cases e : i = j
  ·subst e
   have hlo : zaS o.dst x.dst = some t:=by
    unfold lo at ht
    rw [ho,hx] at ht
    exact ht
   have hd : x.dst = .loc:=by
    unfold zaS at hlo
    split at hlo
    ·rename_i h; exact h
    ·cases hlo
   have h0:=F.lc 0 t (by simp [hlo]) (by simp)
   rw [hfst] at h0
   rw [hval hd]
   rw [hd] at h0
   simpa [R.put] using h0
  ·rw [hold i e hi] at hvi
   have:=H.zf _ _ (M.done i t hi hvi ht)
   have htt : zmK gops i = some t:=by
    unfold lo at ht
    unfold zmK
    split at ht
    ·rename_i o' x' h1 h2
     rw [h1]
     unfold zaS at ht
     split at ht
     ·rename_i h3 _; injection ht with ht; subst ht; exact h3
     ·cases ht
    ·cases ht
   rw [htmp i e hi t htt]
   exact this
 ·by_cases e : i = j
  ·subst e; simp [zba]
  ·have : zba D j i = D i:=by simp [zba,e]
   rw [this]
   rcases hK with ⟨rfl,_⟩ | ⟨rfl,rfl⟩
   ·exact M.before i hi hei
   ·exact M.before i (by omega) hei
 ·have e : i ≠ j:=fun e => by subst e; rw [zoK hK,if_pos rfl] at hvi; cases hvi
  rw [hold i e hi] at hvi
  have hDi' : D i = true:=by simpa [zba,e] using hDi
  exact (M.raw i hi hDi' hvi).ext H fun t ⟨o',h1,h2⟩ => htmp i e hi t (by unfold zmK; rw [h1]; exact h2)
 ·have e : i ≠ j:=fun e => by subst e; rw [zoK hK,if_pos rfl] at hvi; cases hvi
  have e' : i' ≠ j:=fun e => by subst e; rw [zoK hK,if_pos rfl] at hvi'; cases hvi'
  rw [hold i e hi] at hvi
  rw [hold i' e' hi'] at hvi'
  exact M.inj i i' hi hi' (by simpa [zba,e] using hDi) hvi (by simpa [zba,e'] using hDi') hvi' hB
theorem zs1 (C : Chk2 P κ nt gops ps xs ms p) (hnd : κ.Nodup) (hbd : ∀ t ∈ κ,t < nt) {D : Nat → Bool} {K j : Nat} {B : Nat → Nat} {g : G} {w : World} {a : Act} {o : Go.Oper} {x : Oper}
  (M : Mid2 P gops xs κ nt p rr g0 w0 σ0 D K B g w a) (hj : j < p) (hKj : K < j) (he : eff xs j = true) (hal : zwa x = true) (ho : gops[j]? = some o) (hx : xs[j]? = some x) {t : Tmp} (hdst : o.dst = some t)
  {sz : Nat} {es : List (List Go.A.C)} {arr : Array Value} {ty : TypeId} {kd : Mk} (hsz : arr.size = es.length * sz) (hrow : ∀ g w σ,zca g w σ arr sz es) (hkd : kd.ok sz es) (hstep : rr (j + 1) = ((rr j).at ((rr j).st ++ [.cells 0 sz es])).put x.dst (kd.v (rr j).st.length)) :
  ∃ g' B',Mid2 P gops xs κ nt p rr g0 w0 σ0 (zba D j) K B' g' (w.alloc (.cells arr ty)) (a.put o.dst (kd.u w.heap.size)):=by
 obtain ⟨h1,h2,_⟩:=zhW hal
 obtain ⟨hod,_,hc,_⟩:=C.pre_some hj ho hx
 have htlt : t < nt ∧ (t ∈ κ → ∃ q,x.dst = .slot q ∧ κ[q]? = some t):=by
  rw [hdst] at hod
  rcases h2 with h2 | ⟨q,h2⟩
  ·rw [h2] at hod
   simp only [okD,yb,yp,decide_eq_true_eq] at hod
   exact ⟨hod.2,fun h => absurd h (by simpa using hod.1)⟩
  ·rw [h2] at hod
   simp only [okD,beq_iff_eq] at hod
   exact ⟨hbd t (yq hod),fun _ => ⟨q,h2,hod⟩⟩
 let ob : Obj:=.cells arr ty
 let g' : G:={ g with ow:=zxB g.ow w.heap.size .no }
 have H : Ext g w (rr K).st g' (w.alloc ob) (rr K).st:=by
  have:=Ext.alloc M.rel ob g' (fun _ _ => rfl) (fun _ _ _ _ => rfl) (fun b hb => zaF g.ow _ (by omega)) (fun _ _ _ => Iff.rfl) []
  simpa using this
 have R1 : Rel g' (w.alloc ob) (rr K).st:=⟨fun b i h => by rw [size_alloc]; have:=M.rel.nb b i h; omega,fun id o' h => zcM H rfl (fun _ => rfl) (fun b hb _ => ⟨heap_alloc_old w ob hb,zaF g.ow _ (by omega),fun _ h => h⟩) (M.rel.ob id o' h)⟩
 refine ⟨g',zxB B j w.heap.size,?_⟩
 have hvj : vis xs (zba D j) K j = false:=by simp [vis,zba,he]; omega
 have hold : ∀ i,i ≠ j → vis xs (zba D j) K i = vis xs D K i:=fun i hi => by simp [vis,zba,hi]
 have htmp : ∀ i,i ≠ j → i < p → ∀ t',zmK gops i = some t' → ∀ u,(a.put o.dst u).tmps.getD t' undef = a.tmps.getD t' undef:=fun i hi hip t' ht u => zmk fun e =>
  ztc C hnd hip hj hi ht (by unfold zmK; rw [ho]; exact e)
 have hBold : ∀ i,i < p → D i = true → vis xs D K i = false → B i < w.heap.size:=fun i hi hDi hvi => by
  obtain ⟨⟨_,_,_,_,_,_,_,_,_,_,_,_,h7,_⟩,_⟩:=M.raw i hi hDi hvi
  exact (yi.1 h7).1
 refine ⟨M.ext.trans H,R1,by simp [Act.put,hdst,M.size],by simp [Act.put,hdst,M.df],fun q t' ht' => ?_,fun i t' hi hvi ht' => ?_,M.kp,fun i hi hei => ?_,fun i hi hDi hvi => ?_,fun i i' hi hi' hDi hvi hDi' hvi' hB => ?_⟩
 ·by_cases hw : writes x = some q
  ·have hwr:=zBG C.w hj hx hw
   unfold zdO
   rw [hwr]
   simp only [hvj,Bool.false_eq_true,if_false]
   have : zba D j j = true:=by simp [zba]
   rw [this]
   simp only [if_true,vun,zf,zw]
  ·have e1 : zdO rr xs p (zba D j) K q = zdO rr xs p D K q:=by
    unfold zdO
    split
    ·rename_i k' hk
     obtain ⟨_,x',k2,k3⟩:=zgk hk
     have hne : k' ≠ j:=fun e => by subst e; rw [hx] at k2; injection k2 with k2; subst k2; exact hw k3
     have : zba D j k' = D k':=by simp [zba,hne]
     rw [hold k' hne,this]
    ·rfl
   rw [e1]
   have e2 : o.dst ≠ some t':=fun e => by
    rw [hdst] at e
    injection e with e
    subst e
    obtain ⟨q',hq1,hq2⟩:=htlt.2 (yq ht')
    have:=zsJ hnd hq2 ht'
    subst this
    exact hw (zgB hq1)
   rw [zmk e2]
   exact H.zf _ _ (M.slot q t' ht')
 ·have e : i ≠ j:=fun e => by subst e; rw [hvj] at hvi; cases hvi
  rw [hold i e] at hvi
  have htt : zmK gops i = some t':=by
   unfold lo at ht'
   unfold zmK
   split at ht'
   ·rename_i o' x' h1 h2
    rw [h1]
    unfold zaS at ht'
    split at ht'
    ·rename_i h3 _; injection ht' with ht'; subst ht'; exact h3
    ·cases ht'
   ·cases ht'
  rw [htmp i e hi t' htt]
  exact H.zf _ _ (M.done i t' hi hvi ht')
 ·have : i ≠ j:=by omega
  have h0 : zba D j i = D i:=by simp [zba,this]
  rw [h0]
  exact M.before i hi hei
 ·by_cases e : i = j
  ·subst e
   rw [zgL]
   refine ⟨⟨o,x,sz,es,arr,ty,t,kd,ho,hx,hal,hdst,zbg w ob,?_,hsz,hrow,hkd,hstep⟩,zgL g.ow _ _,fun o' hN => ?_,M.ext.size⟩
   ·rw [hdst]
    simp [Act.put,M.size,htlt.1]
   ·have:=M.rel.nb _ o' hN
    omega
  ·rw [hold i e] at hvi
   have hDi' : D i = true:=by simpa [zba,e] using hDi
   rw [zaF B _ e]
   exact (M.raw i hi hDi' hvi).ext H fun t' ⟨o',h1,h2⟩ => htmp i e hi t' (by unfold zmK; rw [h1]; exact h2) _
 ·by_cases e : i = j
  ·by_cases e' : i' = j
   ·rw [e,e']
   ·subst e
    rw [hold i' e'] at hvi'
    have hDq : D i' = true:=by simpa [zba,e'] using hDi'
    have:=hBold i' hi' hDq hvi'
    rw [zgL,zaF B _ e'] at hB
    omega
  ·rw [hold i e] at hvi
   have hDq : D i = true:=by simpa [zba,e] using hDi
   have h1:=hBold i hi hDq hvi
   by_cases e' : i' = j
   ·subst e'
    rw [zgL,zaF B _ e] at hB
    omega
   ·rw [hold i' e'] at hvi'
    rw [zaF B _ e,zaF B _ e'] at hB
    exact M.inj i i' hi hi' hDq hvi (by simpa [zba,e'] using hDi') hvi' hB
theorem zAR (C : Chk2 P κ nt gops ps xs ms p) (hrr : ∀ i x,xs[i]? = some x → step Cf (rr i) x = some (rr (i + 1))) (hnd : κ.Nodup) (hbd : ∀ t ∈ κ,t < nt) {D : Nat → Bool} {K j : Nat} {B : Nat → Nat} {g : G} {w : World} {a : Act} {o : Go.Oper} {x : Oper} {next : Act → World → Prop} {Q : Exit → Act → World → Prop} {r' : R}
  (M : Mid2 P gops xs κ nt p rr g0 w0 σ0 D K B g w a) (hj : j < p) (hKj : K < j) (he : eff xs j = true) (hal : zwa x = true) (ho : gops[j]? = some o) (hx : xs[j]? = some x)
  (F : Fr κ (zff gops xs j) nt g w r' a) (hget : ∀ y ∈ zeF x,r'.get y = (rr j).get y)
  (k : ∀ g' w' u B',Mid2 P gops xs κ nt p rr g0 w0 σ0 (zba D j) K B' g' w' (a.put o.dst u) → next (a.put o.dst u) w') : o.wp P a w next Q:=by
 obtain ⟨h1,h2,hop⟩:=zhW hal
 obtain ⟨hod,_,hc,_⟩:=C.pre_some hj ho hx
 obtain ⟨t,hdst⟩ : ∃ t,o.dst = some t:=by
  cases hd : o.dst with
  | some t => exact ⟨t,rfl⟩
  | none =>
    rw [hd] at hod
    rcases h2 with h2 | ⟨q,h2⟩ <;> rw [h2] at hod <;> simp [okD] at hod
 rcases hop with ⟨zero,hop⟩ | ⟨zero,n,hop⟩
 ·have hs:=zC1 hal hop (hrr j x hx)
  rw [hop] at hc
  simp only [zlB] at hc
  split at hc
  ·rename_i ty hty
   obtain ⟨zs,hz,hzc,_⟩:=zkX hc
   obtain ⟨i,z,k1,k2,k3⟩:=zc2 hz
   have hzz : z.cells = zs.toArray:=by rw [← k3]
   obtain ⟨q1,q2⟩:=zav (g:=g) (w:=w) (σ:=[]) hzc
   have hl : zs.length = zero.length:=zC q1
   obtain ⟨g',B',M'⟩:=zs1 (sz:=zero.length) (es:=[zero]) (arr:=zs.toArray) (ty:=ty) (kd:=.ptr) C hnd hbd M hj hKj he hal ho hx hdst (by simp [hl]) (fun g w σ => by
    obtain ⟨hz1,hz2⟩:=zav (g:=g) (w:=w) (σ:=σ) hzc
    exact zkh hz1 hz2) rfl hs
   refine zmw (u:=.pointer (some ⟨w.heap.size,0,none⟩)) (w':=w.alloc (.cells zs.toArray ty)) ?_ (k g' _ _ B' M')
   unfold execOp
   simp only [hty]
   simp [Instr.alloc,zc8 (w:=w) k1 k2,newVar,newRow,hzz]
  ·cases hc
 ·obtain ⟨kk,m,hv,hm0,hm1,hs⟩:=zDw hal hop (hrr j x hx)
  have hxn:=hget n (by rw [show zeF x = opX x.op ++ _ from rfl,hop]; simp [opX])
  rw [hop] at hc
  simp only [zlB] at hc
  split at hc
  ·rename_i t' l c hoo
   simp only [yb,beq_iff_eq] at hc
   obtain ⟨⟨rfl,q1⟩,q2⟩:=hc
   split at q1
   ·rename_i e ht
    split at q1
    ·rename_i i hi
     simp only [yb,decide_eq_true_eq] at q1
     obtain ⟨⟨h3,h4⟩,h5⟩:=q1
     split at h5
     ·rename_i zs hz
      simp only [yb,beq_iff_eq] at h5
      obtain ⟨⟨h6,h7⟩,_⟩:=h5
      obtain ⟨i',z,k1,k2,k3⟩:=zc2 hz
      rw [hi] at k1
      injection k1 with k1
      subst k1
      subst k3
      have hzc : z.cells.size = i.size:=by simpa using h6
      have hzl : zero.length = i.size:=by
       obtain ⟨hz1,_⟩:=zav (g:=g) (w:=w) (σ:=[]) h7
       rw [← zC hz1]
       exact h6
      have hvx:=F.get q2
      rw [hxn,hv] at hvx
      obtain ⟨ex,_⟩:=zA hvx
      have hrun : (execOp a.eval o).run P w = .ok (.value (.slice (some ⟨w.heap.size,0,none⟩) m.toNat m.toNat)) (w.alloc (.cells (madeCells z.cells (m.toNat * i.size)).toList.toArray e)):=by
       unfold execOp
       simp only [hoo,ex,Sem.run_bind,zpu (P:=P) (w:=w) ht hi k2 hm0 hm1 h3,Result.andThen_ok,Sem.run_pure]
      have hrow : ∀ g w σ,zca g w σ (madeCells z.cells (m.toNat * i.size)).toList.toArray zero.length (yE m.toNat zero):=fun g w σ => by
       obtain ⟨hz1,hz2⟩:=zav (g:=g) (w:=w) (σ:=σ) h7
       have:=zjK (g:=g) (w:=w) (σ:=σ) (es:=yE m.toNat zero) hzc h4 (fun e he => by rw [(List.mem_replicate.1 he).2]; exact hz1) hz2
       rw [List.length_replicate] at this
       rw [Array.toArray_toList,hzl]
       exact this
      obtain ⟨g',B',M'⟩:=zs1 (sz:=zero.length) (es:=yE m.toNat zero) (arr:=(madeCells z.cells (m.toNat * i.size)).toList.toArray) (ty:=e) (kd:=.own m.toNat) C hnd hbd M hj hKj he hal ho hx hdst (by simp [size_madeCells,hzl]) hrow (by simp [Mk.ok]) hs
      exact zmw hrun (k g' _ _ B' M')
     ·cases h5
    ·cases q1
   ·cases q1
  ·cases hc
end
end Go.A
namespace Go.A
theorem Value.beq_eq {a b : Value} (h : Value.beq a b = true) : a = b:=by
 unfold Value.beq at h
 split at h
 ·simp only [yb,decide_eq_true_eq] at h
  rw [h.1,h.2]
 ·simp only [beq_iff_eq] at h
  rw [h]
 ·rename_i a b
  simp only [decide_eq_true_eq] at h
  have : a = b:=by
   cases a
   cases b
   simp only [ByteArray.mk.injEq]
   exact Array.toList_inj.1 h
  rw [this]
 ·cases h
mutual
theorem Fz.beq_eq : ∀ {a b : Fz},a.beq b = true → a = b
 | .lit v,.lit u,h => by
   simp only [Fz.beq] at h
   rw [Value.beq_eq h]
 | .sl xs,.sl ys,h => by
   simp only [Fz.beq] at h
   rw [Fz.beqs_eq h]
 | .lit _,.sl _,h => by simp [Fz.beq] at h
 | .sl _,.lit _,h => by simp [Fz.beq] at h
theorem Fz.beqR_eq : ∀ {a b : List Fz},Fz.beqR a b = true → a = b
 | [],[],_ => rfl
 | x :: xs,y :: ys,h => by
   simp only [Fz.beqR,yb] at h
   rw [Fz.beq_eq h.1,Fz.beqR_eq h.2]
 | [],_ :: _,h => by simp [Fz.beqR] at h
 | _ :: _,[],h => by simp [Fz.beqR] at h
theorem Fz.beqs_eq : ∀ {a b : List (List Fz)},Fz.beqs a b = true → a = b
 | [],[],_ => rfl
 | x :: xs,y :: ys,h => by
   simp only [Fz.beqs,yb] at h
   rw [Fz.beqR_eq h.1,Fz.beqs_eq h.2]
 | [],_ :: _,h => by simp [Fz.beqs] at h
 | _ :: _,[],h => by simp [Fz.beqs] at h
end
theorem C.beq_eq {a b : C} (h : a.beq b = true) : a = b:=by
 unfold C.beq at h
 split at h
 ·rw [Fz.beq_eq h]
 ·simp only [yb,decide_eq_true_eq] at h
  obtain ⟨⟨h1,h2⟩,h3⟩:=h
  rw [h1,h2,Fz.beqs_eq h3]
 ·simp only [yb,decide_eq_true_eq] at h
  obtain ⟨⟨⟨h1,h2⟩,h3⟩,h4⟩:=h
  rw [h1,h2,h3,h4]
 ·simp only [yb,decide_eq_true_eq] at h
  rw [Fz.beqR_eq h.1,h.2]
 ·simp only [yb,decide_eq_true_eq] at h
  obtain ⟨⟨⟨h1,h2⟩,h3⟩,h4⟩:=h
  rw [h1,h2,h3,h4]
 ·simp only [decide_eq_true_eq] at h
  rw [h]
 ·cases h
theorem C.beqs_eq : ∀ {a b : List C},C.beqs a b = true → a = b
 | [],[],_ => rfl
 | x :: xs,y :: ys,h => by
   simp only [C.beqs,yb] at h
   rw [C.beq_eq h.1,C.beqs_eq h.2]
 | [],_ :: _,h => by simp [C.beqs] at h
 | _ :: _,[],h => by simp [C.beqs] at h
theorem V.beq_eq {a b : V} (h : a.beq b = true) : a = b:=by
 unfold V.beq at h
 split at h
 ·rw [C.beq_eq h]
 ·rw [C.beqs_eq h]
 ·cases h
section
variable {P : Program} {κ : List Tmp} {nt : Nat} {gops : Array Go.Oper} {ps : List (Nat × Nat)} {xs : List Oper} {ms : List Nat} {p b l : Nat} {Cf : zad} {rr : Nat → R} {g0 : G} {w0 : World} {σ0 : zd}
theorem zm8 (hrr : ∀ i x,xs[i]? = some x → step Cf (rr i) x = some (rr (i + 1))) : ∀ n,n ≤ xs.length → steps Cf (xs.take n) (rr 0) = some (rr n)
 | 0,_ => rfl
 | n + 1,h => by
   have hx : xs[n]? = some xs[n]:=ya (by omega)
   rw [List.take_add_one,hx]
   simp only [Option.toList_some]
   have ih:=zm8 hrr n (by omega)
   have app : ∀ (a b : List Oper) (r : R),steps Cf (a ++ b) r = (steps Cf a r).bind (steps Cf b):=by
    intro a
    induction a with
    | nil => intro b r; rfl
    | cons x a iha =>
      intro b r
      simp only [List.cons_append,steps]
      cases hq : step Cf r x with
      | none => rfl
      | some r1 => simp only [yo]; exact iha b r1
   rw [app,ih]
   simp only [yo,steps,hrr n _ hx]
theorem ztQ (c : zad) : LeC zvU c:=fun _ _ _ r h => by cases h
theorem zCO {ops : List Oper} {r : R} {j k : Nat} (hrr : ∀ i x,ops[i]? = some x → step Cf (rr i) x = some (rr (i + 1))) (h0 : rr 0 = r) (hk : k ≤ ops.length) (h : zdc Cf ops r (j,k) = true) {x : Oper} (hx : ops[j]? = some x) (hc : zaR x.op ≤ 2) (hl : zxg x.dst = true) (hn : zFR x.op = true) :
  ∃ v,rr (j + 1) = (rr j).put x.dst v ∧ ∃ q,step Cf ((rr j).at (rr k).st) x = some q ∧ q = ((rr j).at (rr k).st).put x.dst v:=by
 unfold zdc at h
 subst h0
 have hj:=zb hx
 simp only [zm8 hrr j (by omega),zm8 hrr k hk,hx] at h
 have hd : x.dst = .loc:=by
  cases hq : x.dst with
  | loc => rfl
  | no => rw [hq] at hl; simp [zxg] at hl
  | slot q => rw [hq] at hl; simp [zxg] at hl
 have quiet : ∀ (r q : R),step Cf r x = some q → ∃ v,q = r.put x.dst v:=fun r q hq => by
  obtain ⟨n,hn⟩:=exX r.get (zeF x)
  obtain ⟨v,h1,_⟩:=zfI (r':=r) (n:=n) hc (fun _ _ => rfl) (hn n (yk _)) (fun _ => ⟨fun id ver sz o _ ho hr => ⟨o,ho,hr⟩⟩) (fun _ => ⟨fun id o _ ho => ho⟩) hq
  exact ⟨v,h1⟩
 unfold zt9 at h
 split at h
 ·rename_i qa qb ha hb
  have ha':=zml (ztQ Cf) _ _ _ ha
  have hb':=zml (ztQ Cf) _ _ _ hb
  have hb2:=hrr j x hx
  rw [hb2] at hb'
  injection hb' with hb'
  obtain ⟨v,hv⟩:=quiet _ _ ha'
  obtain ⟨v',hv'⟩:=quiet _ _ hb2
  have e:=V.beq_eq h
  rw [hv,← hb',hv',hd] at e
  have e2 : v = v':=by simpa [R.put] using e
  subst e2
  exact ⟨v,hv',qa,ha',hv⟩
 ·cases h
theorem zw0 (S : zgX P Cf) (C : Chk2 P κ nt gops ps xs ms p) (hrr : ∀ i x,xs[i]? = some x → step Cf (rr i) x = some (rr (i + 1))) (hps : ∀ q ∈ ps,zdc Cf xs (rr 0) q = true) {D : Nat → Bool} {K j : Nat} {B : Nat → Nat} {g : G} {w : World} {a : Act} {x : Oper}
  (hcl : zhk gops D) (hE : ∀ i ∈ zat gops j,D i = true) (hDj : D j = false) (hS : zx8 xs p D K) (M : Mid2 P gops xs κ nt p rr g0 w0 σ0 D K B g w a) (hj : j < p) (hx : xs[j]? = some x) (hc : zaR x.op ≤ 2) {r' : R} (hst : r'.st = (rr K).st)
  (hget : ∀ y ∈ zeF x,r'.get y = (rr j).get y) (hlt : ∀ y ∈ zeF x,((rr j).get y).lt (rr K).st.length = true) :
  ∃ v,rr (j + 1) = (rr j).put x.dst v ∧ step Cf r' x = some (r'.put x.dst v):=by
 have hjl : j < gops.size:=yn hj C.p_le
 have hA : ∀ i,Reach gops j i → D i = true:=fun i h => za0 hcl h hE
 have hB : ∀ i,Reach gops i j → D i = false:=fun i h => by
  cases hi : D i with
  | false => rfl
  | true =>
    have:=za0 hcl h (hcl i hi)
    rw [hDj] at this
    cases this
 have hread:=(C.pre_some hj (ym hjl) hx).2.2.2.2.2
 unfold zuo at hread
 simp only [yl,beq_iff_eq,decide_eq_true_eq] at hread
 have hKl : K ≤ xs.length:=yM M.kp C.w.le
 rcases hread with (h | h) | h
 ·exact zfI (r':=r') (n:=(rr K).st.length) hc hget hlt (fun e => by omega) (fun e => by omega) (hrr j x hx)
 ·omega
 ·have:=yf.1 h K (by have:=M.kp; simp; omega)
  simp only [yl,yp,Bool.or_eq_false_iff,yb] at this
  rcases this with ((h | h) | h) | ⟨⟨h1,h2⟩,h3⟩
  ·
   rcases hS with hS | ⟨hS,_⟩
   ·simp [hS] at h
   ·rw [hS] at h; simp at h
  ·
   exfalso
   unfold zD0 at h
   simp only [yG,yL,yb,decide_eq_true_eq] at h
   rcases h with ⟨h1,h2⟩ | h
   ·have:=hA K (ze0 C.masks j hjl h2)
    rcases hS with hS | ⟨_,hS⟩
    ·omega
    ·rw [hS] at this; cases this
   ·rw [List.all_eq_false] at h
    obtain ⟨e,he,h⟩:=h
    simp only [yp,yN,yb,yQ,yL] at h
    have hek : e < K:=by simpa using he
    have hel : e < gops.size:=by have:=M.kp; have:=C.p_le; omega
    have:=hB e (ze0 C.masks e hel h.2)
    rw [M.before e hek h.1] at this
    cases this
  ·
   have hcls : ∀ i,min j K ≤ i → i < max j K → cls xs i ≤ 2 ∨ cls xs i = 4 ∨ (zaR x.op = 1 ∧ cls xs i ≤ 4):=fun i h1 h2 => by
    have:=yf.1 h i (by have:=M.kp; simp; omega)
    simp only [yl,yp,yb,decide_eq_true_eq,beq_iff_eq,yG,decide_eq_false_iff_not] at this
    rcases this with ((h | h) | h) | h
    ·unfold eff at h
     simp only [decide_eq_false_iff_not] at h
     exact .inl (by omega)
    ·omega
    ·exact .inr (.inl h)
    ·exact .inr (.inr h)
   rcases Nat.le_total K j with hKj | hKj
   ·obtain ⟨n,hn⟩ : ∃ n,j = K + n:=⟨j - K,by omega⟩
    have hjx:=zb hx
    refine zfI (r':=r') (n:=(rr K).st.length) hc hget hlt (fun hc1 => ?_) (fun hc2 => ?_) (hrr j x hx)
    ·rw [hst,hn]
     exact (zmu hrr n (by omega) fun i h1 h2 => by
      rcases hcls i (by omega) (by omega) with h | h | h
      ·omega
      ·omega
      ·exact h.2).2.2 _ (yk _)
    ·obtain ⟨os,hos⟩:=zlG hrr (a:=K) n (by omega) fun i h1 h2 => by
      rcases hcls i (by omega) (by omega) with h | h | h
      ·exact .inl h
      ·exact .inr h
      ·omega
     rw [hst,hn,hos]
     exact ⟨fun id o hid ho => by rw [yd hid] at ho; exact ho⟩
   ·obtain ⟨n,hn⟩ : ∃ n,K = j + n:=⟨K - j,by omega⟩
    refine zfI (r':=r') (n:=(rr K).st.length) hc hget hlt (fun hc1 => ?_) (fun hc2 => ?_) (hrr j x hx)
    ·rw [hst,hn]
     exact (zmu hrr n (by omega) fun i h1 h2 => by
      rcases hcls i (by omega) (by omega) with h | h | h
      ·omega
      ·omega
      ·exact h.2).2.1 _
    ·obtain ⟨os,hos⟩:=zlG hrr (a:=j) n (by omega) fun i h1 h2 => by
      rcases hcls i (by omega) (by omega) with h | h | h
      ·exact .inl h
      ·exact .inr h
      ·omega
     rw [hst,hn,hos]
     exact ⟨fun id o _ ho => by rw [yd (zb ho)]; exact ho⟩
  ·
   obtain ⟨v,q1,q,q2,q3⟩:=zCO hrr rfl hKl (hps (j,K) (by simpa using h1)) hx hc h2 h3
   refine ⟨v,q1,?_⟩
   rw [q3] at q2
   obtain ⟨n,hn⟩:=exX ((rr j).at (rr K).st).get (zeF x)
   have hge : ∀ y,((rr j).at (rr K).st).get y = (rr j).get y:=fun y => by cases y <;> rfl
   obtain ⟨v',e1,e2⟩:=zfI (r':=r') (n:=n) hc (fun y hy => by rw [hge]; exact hget y hy) (hn n (yk _)) (fun _ => by rw [hst]; exact ⟨fun id ver sz o _ ho hr => ⟨o,ho,hr⟩⟩) (fun _ => by rw [hst]; exact ⟨fun id o _ ho => ho⟩) q2
   have hd : x.dst = .loc:=by
    cases hq : x.dst with
    | loc => rfl
    | no => rw [hq] at h2; simp [zxg] at h2
    | slot q => rw [hq] at h2; simp [zxg] at h2
   rw [hd] at e1
   have : v = v':=by simpa [R.put] using congrArg (fun r => r.rs.headD vun) e1
   subst this
   exact e2
end
end Go.A
namespace Go.A
section
variable {P : Program} {κ : List Tmp} {nt : Nat} {gops : Array Go.Oper} {ps : List (Nat × Nat)} {xs : List Oper} {ms : List Nat} {p b l : Nat} {Cf : zad} {rr : Nat → R} {g0 : G} {w0 : World} {σ0 : zd} {Q : Exit → Act → World → Prop}
theorem zBu (S : zgX P Cf) (C : Chk2 P κ nt gops ps xs ms p) (hrr : ∀ i x,xs[i]? = some x → step Cf (rr i) x = some (rr (i + 1))) (h0 : (rr 0).rs = []) (henv : (rr 0).env.length = κ.length) (hnd : κ.Nodup) (hbd : ∀ t ∈ κ,t < nt) (hps : ∀ q ∈ ps,zdc Cf xs (rr 0) q = true)
  {D : Nat → Bool} {K j : Nat} {B : Nat → Nat} {g : G} {w : World} {a : Act} {o : Go.Oper} {next : Act → World → Prop}
  (hcl : zhk gops D) (hE : ∀ i ∈ zat gops j,D i = true) (hDj : D j = false) (hDp : ∀ i,p ≤ i → D i = false) (hS : zx8 xs p D K) (M : Mid2 P gops xs κ nt p rr g0 w0 σ0 D K B g w a) (hj : j < p) (ho : gops[j]? = some o)
  (k : ∀ g' w' u K' B',Mid2 P gops xs κ nt p rr g0 w0 σ0 (zba D j) K' B' g' w' (a.put o.dst u) → next (a.put o.dst u) w') :
  if Region.wanted o (yielded gops a.tmps) then o.wp P a w next Q else next (a.put o.dst undef) w:=by
 have hjl : j < gops.size:=yn hj C.p_le
 have hxl : j < xs.length:=by rw [C.len]; exact hjl
 have hx : xs[j]? = some xs[j]:=ya hxl
 obtain ⟨c1,c2,c3,c4,_⟩:=C.pre_some hj ho hx
 have hA : ∀ i,Reach gops j i → D i = true:=fun i h => za0 hcl h hE
 have hB : ∀ i,Reach gops i j → D i = false:=fun i h => by
  cases hi : D i with
  | false => rfl
  | true =>
    have:=za0 hcl h (hcl i hi)
    rw [hDj] at this
    cases this
 have hback : ∀ i ∈ zat gops j,i < j:=fun i hi => by
  unfold zat at hi
  rw [ho] at hi
  exact C.plan.back j o ho i hi
 have F:=zql (b:=0) (l:=0) C hrr henv hnd hbd (yz hj) (zzY gops xs j) (fun i t hi ht => by
  unfold zzY at ht
  split at ht
  ·rename_i hc
   have hil : i < xs.length:=by omega
   refine ⟨zCu C hcl hE hS hi hj (ya hil) hx (hE i (by simpa using hc)) fun _ => by unfold ztk; rw [hc]; rfl,ht⟩
  ·cases ht) M
 have hrs:=znG hrr h0 j (by omega)
 obtain ⟨_,hen⟩:=zgl C.w hrr j (yz hj)
 have hget : ∀ y ∈ zeF xs[j],(⟨(ye j).reverse.map (za6 rr),zoc rr xs p D K,(rr K).st,0,0⟩ : R).get y = (rr j).get y:=fun y hy => by
  cases y with
  | l d => show ((ye j).reverse.map (za6 rr)).getD d vun = (rr j).rs.getD d vun; rw [hrs]
  | c v => rfl
  | s q =>
    show (zoc rr xs p D K).getD q vun = (rr j).env.getD q vun
    rw [zl2 C.w hrr,hen]
    unfold zdO zg0
    cases hi : wr xs p q with
    | none => rfl
    | some i =>
      simp only
      obtain ⟨hip,x',hx',hw⟩:=zgk hi
      have hread : zfn q xs[j] = true:=by
       unfold zfn
       rw [yP]
       exact ⟨_,hy,by simp⟩
      rcases yv i j with hlt | rfl | hlt
      ·have hD : D i = true:=by
        rcases (C.pair hlt hj hx' hx).1 with h | h
        ·exfalso
         unfold zgb at h
         rw [hw] at h
         simp [hread] at h
        ·exact hA i h
       have hv:=zCu C hcl hE hS hlt hj hx' hx hD fun _ => by
        unfold ztk
        rw [hx']
        simp [hw,hread]
       rw [hv]
       simp [hlt]
      ·simp [vis,hDj]
      ·have hD : D i = false:=by
        rcases (C.pair hlt hip hx hx').1 with h | h
        ·exfalso
         unfold zgb at h
         rw [hw] at h
         simp [hread] at h
        ·exact hB i h
       have : ¬ i < j:=by omega
       simp [vis,hD,this]
 have hlt : ∀ y ∈ zeF xs[j],((rr j).get y).lt (rr K).st.length = true:=fun y hy => by
  rw [← hget y hy]
  have hu:=c4 y hy
  cases y with
  | l d =>
    simp only [zxl] at hu
    split at hu
    ·rename_i t ht
     exact zos _ _ (F.lc d t ht hu)
    ·cases hu
  | s q =>
    by_cases hq : q < κ.length
    ·exact zos _ _ (F.env q _ (ya hq))
    ·have hl:=F.len
     have : (⟨(ye j).reverse.map (za6 rr),zoc rr xs p D K,(rr K).st,0,0⟩ : R).get (.s q) = vun:=by
      show (zoc rr xs p D K).getD q vun = vun
      rw [yc,yj (by simp only at hl; omega)]
      rfl
     rw [this]
     rfl
  | c v => exact V.lt_mono (yR _) v hu
 by_cases hc : zaR xs[j].op ≤ 2
 ·have heff : eff xs j = false:=by unfold eff; rw [zhq hx]; simp; omega
  obtain ⟨v,h1,h2⟩:=zw0 (r':=⟨(ye j).reverse.map (za6 rr),zoc rr xs p D K,(rr K).st,0,0⟩) S C hrr hps hcl hE hDj hS M hj hx hc rfl hget hlt
  refine zev (r:=⟨(ye j).reverse.map (za6 rr),zoc rr xs p D K,(rr K).st,0,0⟩) S M.rel F c1 c2 c3 h2 (fun g' w' u H R1 _ F1 => ?_) (fun _ h => h)
  rw [zeU] at H R1
  exact k g' w' u K B (ztp (b:=0) (l:=0) (σ1:=(rr j).st) C hrr henv hnd M (.inl ⟨rfl,heff⟩) hj hDj ho hx h1 H R1 F1)
 ·have heff : eff xs j = true:=by unfold eff; rw [zhq hx]; simp; omega
  by_cases hKj : j = K
  ·subst hKj
   obtain ⟨v,σ1,h1,h2,_⟩:=zre (r':=⟨(ye j).reverse.map (za6 rr),zoc rr xs p D j,(rr j).st,0,0⟩) hget rfl (hrr j _ hx)
   have hst : (rr (j + 1)).st = σ1:=by rw [h1,zeU]; rfl
   refine zev (r:=⟨(ye j).reverse.map (za6 rr),zoc rr xs p D j,(rr j).st,0,0⟩) S M.rel F c1 c2 c3 h2 (fun g' w' u H R1 _ F1 => ?_) (fun _ h => h)
   rw [zeU] at H R1
   have H' : Ext g w (rr j).st g' w' (rr (j + 1)).st:=by rw [hst]; exact H
   have R' : Rel g' w' (rr (j + 1)).st:=by rw [hst]; exact R1
   refine k g' w' u (j + 1) B (ztp (b:=0) (l:=0) (σ1:=σ1) C hrr henv hnd M (.inr ⟨rfl,rfl⟩) hj hDj ho hx h1 H' R' ?_)
   have e : (⟨(ye j).reverse.map (za6 rr),zoc rr xs p D j,(rr (j + 1)).st,0,0⟩ : R) = (⟨(ye j).reverse.map (za6 rr),zoc rr xs p D j,(rr j).st,0,0⟩ : R).at σ1:=by rw [hst]; rfl
   rw [e]
   exact F1
  ·have hKlt : K < j ∧ zwa xs[j] = true:=by
    rcases hS with hS | ⟨hS1,hS2⟩
    ·have:=M.before j (by omega) heff
     rw [hDj] at this; cases this
    ·rcases yK hKj with h | h
     ·have:=M.before j h heff
      rw [hDj] at this; cases this
     ·have hKl : K < xs.length:=by omega
      rcases (C.pair h hj (ya hKl) hx).2.2.1 hS1 heff with h' | h'
      ·exact ⟨h,h'⟩
      ·have:=hA K h'
       rw [hS2] at this; cases this
   have hgd:=zqD F c2 (zhW hKlt.2).1
   simp only [Region.wanted,hgd,if_true]
   exact zAR C hrr hnd hbd M hj hKlt.1 heff hKlt.2 ho hx F hget fun g' w' u B' M' => k g' w' u K B' M'
theorem zvM (S : zgX P Cf) (C : Chk2 P κ nt gops ps xs ms p) (hrr : ∀ i x,xs[i]? = some x → step Cf (rr i) x = some (rr (i + 1))) (h0 : (rr 0).rs = []) (henv : (rr 0).env.length = κ.length) (hnd : κ.Nodup) (hbd : ∀ t ∈ κ,t < nt) (hps : ∀ q ∈ ps,zdc Cf xs (rr 0) q = true)
  (hend : ∀ g w a loc,Ext g0 w0 σ0 g w (rr gops.size).st → Rel g w (rr gops.size).st → Fr κ loc nt g w (rr gops.size) a → Q .normal a w) :
  ∀ (fuel : Nat) (listed : Array Bool) (K : Nat) (B : Nat → Nat) (g : G) (w : World) (a : Act),listed.size = gops.size → (∀ i,p ≤ i → Dof listed i = false) → zhk gops (Dof listed) → left (Dof listed) (ye gops.size) ≤ fuel → Mid2 P gops xs κ nt p rr g0 w0 σ0 (Dof listed) K B g w a → wpAny P .any gops Q fuel listed a w
 | fuel,listed,K,B,g,w,a,hs,hp,hcl,hf,M0 => by
   obtain ⟨K,g,M,hS⟩:=zx7 C hrr henv _ K g rfl M0
   by_cases hfull : ∀ i,i < p → Dof listed i = true
   ·have hDp : ∀ i,Dof listed i = decide (i < p):=fun i => by
     by_cases hi : i < p
     ·simp [hi,hfull i hi]
     ·simp [hi,hp i (by omega)]
    have hKp : K = p:=by
     rcases hS with hS | ⟨_,hS⟩
     ·exact hS
     ·rcases yu K p with h | h
      ·rw [hfull K h] at hS; cases hS
      ·have:=M.kp; omega
    subst hKp
    have hvis : ∀ i,i < K → vis xs (Dof listed) K i = true:=fun i hi => by simp [vis,hfull i hi,hi]
    have F0:=zql (b:=0) (l:=0) C hrr henv hnd hbd (yk K) (lo gops xs) (fun i t hi ht => ⟨hvis i hi,ht⟩) M
    have hen : zoc rr xs K (Dof listed) K = (rr K).env:=by
     obtain ⟨q1,q2⟩:=zgl C.w hrr K (yk _)
     refine yB fun q => ?_
     by_cases hq : q < (rr 0).env.length
     ·have e1:=zl2 (D:=Dof listed) (K:=K) (q:=q) C.w hrr
      have e2:=q2 q
      have e3 : zdO rr xs K (Dof listed) K q = zg0 rr xs K (fun k => decide (k < K)) q:=by
       unfold zdO zg0
       cases hk : wr xs K q with
       | none => rfl
       | some k =>
         obtain ⟨hkK,_⟩:=zgk hk
         simp only [hvis k hkK]
         simp [hkK]
      rw [e3,← e2] at e1
      rw [yc,yc] at e1
      have l1 : q < (zoc rr xs K (Dof listed) K).length:=by simpa [zoc] using hq
      have l2 : q < (rr K).env.length:=by omega
      rw [ya l1,ya l2] at e1 ⊢
      simpa using e1
     ·rw [yj (by simp [zoc]; omega),yj (by omega)]
    have hrs:=znG hrr h0 K C.w.le
    rw [hen,← hrs] at F0
    have F : Fr κ (zhT gops xs K) nt g w (rr K) a:=⟨F0.size,F0.len,F0.env,F0.lc,F0.lk,F0.nd,F0.bd,F0.df⟩
    refine zrF S C.plan hrr hend fuel K listed g w a hs (yk _) C.p_le hDp ?_ M.ext M.rel F
    have hcount : ∀ n,n ≤ gops.size → n ≤ K + left (Dof listed) (ye n):=fun n => by
     induction n with
     | zero => intro _; omega
     | succ n ih =>
       intro hn
       have:=ih (by omega)
       unfold left at this ⊢
       rw [yT,List.filter_append,List.length_append]
       by_cases hnp : n < K
       ·omega
       ·have h0:=hp n (by omega)
        simp [h0]
        omega
    have:=hcount gops.size (yk _)
    omega
   ·have hready : ∀ j,j ∈ Region.ready .any gops listed → j < p ∧ j < gops.size ∧ Dof listed j = false ∧ ∀ i ∈ zat gops j,Dof listed i = true:=fun j hj => by
     obtain ⟨⟨o,ho⟩,h0,h1⟩:=(zka hs).1 hj
     have hlt : j < gops.size:=(yi.1 ho).1
     refine ⟨?_,hlt,h0,h1⟩
     rcases yu j p with h | h
     ·exact h
     ·have hx : xs[j]? = some (xs[j]'(by rw [C.len]; exact hlt)):=ya (by rw [C.len]; exact hlt)
      have hclo:=(C.plan.tail j o _ h ho hx).2.2.2
      exact absurd (fun i hi => za0 hcl (hclo i (by omega)) h1) hfull
    obtain ⟨i0,hi0⟩:=Classical.not_forall.1 hfull
    obtain ⟨hi0,hne⟩:=Classical.not_imp.1 hi0
    have hne0 : Region.ready .any gops listed ≠ []:=zjw hs C.plan.back i0 (by have:=C.p_le; omega) (by simpa using hne)
    cases fuel with
    | zero =>
      have:=zsv (Nat.le_zero.1 hf) i0 (by have:=C.p_le; simpa using yn hi0 this)
      exact absurd this hne
    | succ fuel =>
      refine ⟨fun hr => absurd hr hne0,fun j hj => ?_⟩
      obtain ⟨hjp,hlt,hD0,hD1⟩:=hready j hj
      have ho : gops[j]? = some gops[j]:=ym hlt
      have key:=zBu (Q:=Q) (next:=wpAny P .any gops Q fuel (listed.setIfInBounds j true)) S C hrr h0 henv hnd hbd hps hcl hD1 hD0 hp hS M hjp ho (fun g' w' u K' B' M' =>
       zvM S C hrr h0 henv hnd hbd hps hend fuel _ K' B' g' w' _ (by simpa using hs) (fun i hi => by
        rw [ziA hs hlt]
        unfold zba
        split
        ·omega
        ·exact hp i hi) (by rw [ziA hs hlt]; exact zqS hcl hD1) (by
        rw [ziA hs hlt]
        have:=zur (Dof listed) j hD0 (ye gops.size) (by simpa using hlt)
        omega) (by
        rw [ziA hs hlt]
        exact M'))
      unfold wpOp
      simp only [ho]
      split
      ·rename_i hw
       rw [if_pos hw] at key
       exact .inl key
      ·rename_i hw
       rw [if_neg hw] at key
       exact key
termination_by fuel => fuel
theorem zDv (hm : P.follows .mixedOrders = true) (Cf : zad) (S : zgX P Cf) (κ : List Tmp) (nt id : Nat) (gops : Array Go.Oper) (ps : List (Nat × Nat)) (xs : List Oper) (hchk : zn8 P κ nt gops ps xs = true) (r r1 : R) (hr0 : r.rs = []) (hreg : zwR Cf ps xs r = some r1) : zzC P κ nt id gops r r1:=by
 intro g w a Q R0 F hend
 obtain ⟨ms,p,C⟩:=zCY hchk
 unfold zwR at hreg
 rw [yh] at hreg
 obtain ⟨r2,hsteps,hreg⟩:=hreg
 split at hreg
 ·rename_i hall
  injection hreg with hreg
  subst hreg
  obtain ⟨rr,k1,k2,hrr⟩:=zlQ xs r r2 hsteps
  have hps : ∀ q ∈ ps,zdc Cf xs (rr 0) q = true:=fun q hq => by rw [k1]; exact yf.1 hall q hq
  refine wp_region_any hm ?_
  obtain ⟨D1,D2⟩:=drawn R0 1
  have hDof : ∀ i,Dof (yr gops.size false) i = false:=fun i => by
   unfold Dof
   rw [yx,yD]
   split <;> rfl
  have hvis : ∀ K i,vis xs (Dof (yr gops.size false)) K i = false:=fun K i => by simp [vis,hDof]
  have hend' : ∀ g' w' a' loc,Ext g w r.st g' w' (rr gops.size).st → Rel g' w' (rr gops.size).st → Fr κ loc nt g' w' (rr gops.size) a' → Q .normal a' w':=fun g' w' a' loc H R1 F1 => by
   rw [← C.len,k2] at H R1 F1
   exact hend g' w' a' loc H R1 F1
  refine zvM (g0:=g) (w0:=w) (σ0:=r.st) (rr:=rr) S C hrr (by rw [k1]; exact hr0) (by rw [k1]; exact F.len) F.nd F.bd hps hend' gops.size (yr gops.size false) 0 (fun _ => 0) g (w.drewN 1) a (by simp) (fun i _ => hDof i) (fun j hj => by rw [hDof] at hj; cases hj) ?_ ⟨by rw [k1]; exact D1,by rw [k1]; exact D2,F.size,F.df,fun q t ht => ?_,fun i t _ hv => (by rw [hvis] at hv; cases hv),yR _,fun i hi => by omega,fun i _ hD => (by rw [hDof] at hD; cases hD),fun i j _ _ hD => (by rw [hDof] at hD; cases hD)⟩
  ·unfold left
   exact yM (yF _ _) (by simp)
  ·have e : zdO rr xs p (Dof (yr gops.size false)) 0 q = r.env.getD q vun:=by
    unfold zdO
    split <;> simp [hvis,hDof,k1]
   rw [e,k1]
   exact D1.zf _ _ (F.env q t ht)
 ·cases hreg
end
end Go.A
