/- A part of the proof of SchedDepth. Conditions: none. -/
import Derived.Test.YtmkncmffaaninaaGreatPAE
import Derived.Test.YtmkncmffaaninaaGreatPAA
import Derived.Attr
import Derived.Maps.RangeRun
import Derived.Below
import Derived.WalkSpells
import Derived.Test.YtmkncmffaaninaaGreatProg
import Derived.KernelRfl
set_option linter.unusedVariables false
set_option linter.unusedSimpArgs false
set_option linter.unusedSectionVars false
open Bool renaming and_eq_true → ya,not_eq_true' → yl,or_eq_true → yw
open List renaming filterMap_cons → yb,range → yc,getElem?_eq_getElem → yd,getD_eq_getElem?_getD → ye,getElem?_concat_length → yg,filterMap_append → yh,filterMap_eq_nil_iff → yk,all_eq_true → ym,append_nil → yp,getElem?_append_left → yq,filterMap_nil → yr,getElem?_eq_none → yv,range_succ → yy,range' → yz,nodup_range → yA,filter_cons → yB,nodup_cons → yC,replicate → yD,map_cons → yF,mem_map → yH,flatten → yI
open Option renaming bind_eq_some_iff → yf,map_some → yo,bind_some → yt,map_eq_some_iff → yx,map_none → yE
open Nat renaming le_refl → yi,lt_of_lt_of_le → yn,le_of_lt → yG
open Array renaming getElem?_eq_some_iff → yj,getElem?_eq_getElem → ys,replicate → yu
namespace Go.A
inductive IK where
 | mk
 | ins (n : Int) (d : Nat) (y : X)
 | quiet
 | ld
 | bad
def zD4 : Op → IK
 | .ld _ _ => .ld
 | op => if zaR op == 0 then .quiet else .bad
def zsg : Oper → IK
 | ⟨.loc,.mkm,none⟩ => .mk
 | ⟨.no,.mu (.l d) (.c (.one (.f (.lit (.int .i64 n))))) y,none⟩ => .ins n d y
 | ⟨_,op,_⟩ => zD4 op
def zCp (xs : List Oper) (i : Nat) : IK:=match xs[i]? with
 | some x => zsg x
 | none => .bad
def zCS : IK → Bool
 | .mk => true
 | _ => false
def zt1 (xs : List Oper) (i : Nat) : Option Int:=match zCp xs i with
 | .ins n _ _ => some n
 | _ => none
def zgU (gops : Array Go.Oper) (m0 j : Nat) : IK → Bool
 | .mk => j == m0
 | .ins _ d _ => decide (d < j) && (j - 1 - d == m0) && (zat gops j).contains m0
 | .quiet => true
 | .ld => true
 | .bad => false
def zr9 (ms : List Nat) (xs : List Oper) (i j : Nat) : Bool:=match xs[i]?,xs[j]? with
 | some x,some y => (zgb x y || bit ms j i) && (match writes x,writes y with
   | some q,some q' => q != q'
   | _,_ => true)
 | _,_ => false
def zuK (P : Program) (κ : List Tmp) (nt : Nat) (gops : Array Go.Oper) (xs : List Oper) (ms : List Nat) (m0 j : Nat) : Bool:=match gops[j]?,xs[j]? with
 | some o,some x => okD κ nt o.dst x.dst && zfJ κ (zff gops xs j) gops o.guard x.guard && zlB P κ (zff gops xs j) o x.dst x.op && (yc j).all (fun i => zr9 ms xs i j) && zgU gops m0 j (zsg x)
 | _,_ => false
def zoh : List Int → Bool
 | [] => true
 | x :: xs => !xs.contains x && zoh xs
def zvT (P : Program) : List Tmp → Nat → Array Go.Oper → List Oper → Bool:=fun κ nt gops xs =>
 let ms:=zlN gops.toList []
 let p:=zn4 ms gops.size
 match (yc p).find? (fun i => zCS (zCp xs i)) with
 | none => false
 | some m0 => ziX gops ms && xs.length == gops.size && decide (p ≤ gops.size) && zjo (zDN gops xs p) && zoh ((yc p).filterMap (zt1 xs)) && zCS (zCp xs m0) && decide (m0 < p) && (yc p).all (zuK P κ nt gops xs ms m0) && (yc gops.size).all fun j => decide (j < p) || zir P κ nt gops xs ms j
structure Chk3 (P : Program) (κ : List Tmp) (nt : Nat) (gops : Array Go.Oper) (xs : List Oper) (ms : List Nat) (m0 p : Nat) : Prop where
 masks : ziX gops ms = true
 len : xs.length = gops.size
 p_le : p ≤ gops.size
 dup : zjo (zDN gops xs p) = true
 keys : zoh ((yc p).filterMap (zt1 xs)) = true
 ismk : zCS (zCp xs m0) = true
 m0p : m0 < p
 pre : ∀ j,j < p → zuK P κ nt gops xs ms m0 j = true
 tail : ∀ j,p ≤ j → j < gops.size → zir P κ nt gops xs ms j = true
theorem znp : ∀ {l : List Int},zoh l = true → l.Nodup
 | [],_ => .nil
 | x :: l,h => by
   simp only [zoh,ya,yl] at h
   exact yC.2 ⟨by simpa using h.1,znp h.2⟩
section
variable {P : Program} {κ : List Tmp} {nt : Nat} {gops : Array Go.Oper} {xs : List Oper} {ms : List Nat} {m0 p : Nat} {Cf : zad} {rr : Nat → R}
theorem zCD (h : zvT P κ nt gops xs = true) : ∃ ms m0 p,Chk3 P κ nt gops xs ms m0 p:=by
 unfold zvT at h
 simp only at h
 split at h
 ·cases h
 ·simp only [ya,beq_iff_eq,decide_eq_true_eq] at h
  obtain ⟨⟨⟨⟨⟨⟨⟨⟨h1,h2⟩,h3⟩,h4⟩,h5⟩,h6⟩,h7⟩,h8⟩,h9⟩:=h
  refine ⟨_,_,_,h1,h2,h3,h4,h5,h6,h7,fun j hj => ym.1 h8 j (by simpa using hj),fun j hj hlt => ?_⟩
  have:=ym.1 h9 j (by simpa using hlt)
  simp only [yw,decide_eq_true_eq] at this
  rcases this with h | h
  ·omega
  ·exact h
theorem Chk3.pre_some (C : Chk3 P κ nt gops xs ms m0 p) {j : Nat} (hj : j < p) {o : Go.Oper} {x : Oper} (ho : gops[j]? = some o) (hx : xs[j]? = some x) :
  okD κ nt o.dst x.dst = true ∧ zfJ κ (zff gops xs j) gops o.guard x.guard = true ∧ zlB P κ (zff gops xs j) o x.dst x.op = true ∧ (∀ i,i < j → zr9 ms xs i j = true) ∧ zgU gops m0 j (zsg x) = true:=by
 have h:=C.pre j hj
 unfold zuK at h
 rw [ho,hx] at h
 simp only [ya] at h
 obtain ⟨⟨⟨⟨h1,h2⟩,h3⟩,h5⟩,h6⟩:=h
 exact ⟨h1,h2,h3,fun i hi => ym.1 h5 i (by simpa using hi),h6⟩
theorem Chk3.plan (C : Chk3 P κ nt gops xs ms m0 p) : Plan P κ nt gops xs p where
 len:=C.len
 p_le:=C.p_le
 back:=fun j o ho i hi => by
  have hj : j < gops.size:=(yj.1 ho).1
  exact (zkc C.masks hj).2 i (by unfold zat; rw [ho]; exact hi)
 pre:=fun j o x hj ho hx => (C.pre_some hj ho hx).1
 apart:=fun i j t hi hj h1 h2 => zj8 C.dup yA i (by simpa using hi) j (by simpa using hj) t h1 h2
 tail:=fun j o x hj ho hx => by
  have hlt : j < gops.size:=(yj.1 ho).1
  have h:=C.tail j hj hlt
  unfold zir at h
  rw [ho,hx] at h
  simp only [ya] at h
  obtain ⟨⟨⟨h1,h2⟩,h3⟩,h4⟩:=h
  exact ⟨h1,h2,h3,fun i hi => ze0 C.masks j hlt (ym.1 h4 i (by simpa using hi))⟩
theorem Chk3.pair (C : Chk3 P κ nt gops xs ms m0 p) {i j : Nat} (hij : i < j) (hj : j < p) {x y : Oper} (hx : xs[i]? = some x) (hy : xs[j]? = some y) :
  (zgb x y = true ∨ Reach gops j i) ∧ ∀ q,writes x = some q → writes y ≠ some q:=by
 have hlt : j < gops.size:=yn hj C.p_le
 have h:=(C.pre_some hj (ys hlt) hy).2.2.2.1 i hij
 unfold zr9 at h
 rw [hx,hy] at h
 simp only [ya,yw] at h
 obtain ⟨h1,h2⟩:=h
 refine ⟨h1.imp id fun h => ze0 C.masks j hlt h,fun q hq hq' => ?_⟩
 rw [hq,hq'] at h2
 simp at h2
theorem Chk3.w (C : Chk3 P κ nt gops xs ms m0 p) : ChkW xs p:=⟨by rw [C.len]; exact C.p_le,fun hij hj _ _ hx hy => (C.pair hij hj hx hy).2⟩
def zDP (rr : Nat → R) (i : Nat) : IK → Option (Int × V)
 | .ins n _ y => some (n,(rr i).get y)
 | _ => none
def ent (rr : Nat → R) (xs : List Oper) (i : Nat) : Option (Int × V):=zDP rr i (zCp xs i)
def zrT (rr : Nat → R) (xs : List Oper) (D : Nat → Bool) (i : Nat) : Option (Int × V):=if D i then ent rr xs i else none
def zbl (rr : Nat → R) (xs : List Oper) (p : Nat) (D : Nat → Bool) : List (Int × V):=(yc p).filterMap (zrT rr xs D)
def zgz (rr : Nat → R) (xs : List Oper) (p m0 : Nat) (D : Nat → Bool) : zd:=if D m0 then (rr 0).st ++ [.mp (zbl rr xs p D)] else (rr 0).st
theorem zdi {α β : Type} {f f' : α → Option β} : ∀ {l : List α},(∀ i ∈ l,f' i = f i) → l.filterMap f' = l.filterMap f
 | [],_ => rfl
 | y :: l,h => by
   simp only [yb,h y (by simp),zdi fun i hi => h i (List.mem_cons_of_mem _ hi)]
theorem zlX {α β : Type} [DecidableEq α] {f f' : α → Option β} {j : α} {x : β} : ∀ {l : List α},l.Nodup → j ∈ l → (∀ i,i ≠ j → f' i = f i) → f j = none → f' j = some x → (l.filterMap f').Perm (l.filterMap f ++ [x])
 | [],_,h,_,_,_ => by simp at h
 | y :: l,hn,h,h1,h2,h3 => by
   rw [yC] at hn
   by_cases e : y = j
   ·subst e
    have : l.filterMap f' = l.filterMap f:=zdi fun i hi => h1 i (fun e => hn.1 (e ▸ hi))
    simp only [yb,h2,h3,this]
    exact (List.perm_append_singleton _ _).symm
   ·have ih:=zlX hn.2 (by simpa [Ne.symm e] using h) h1 h2 h3
    simp only [yb,h1 y e]
    cases f y with
    | none => exact ih
    | some z => exact ih.cons z
theorem zCZ (i : Nat) : (ent rr xs i).map (·.1) = zt1 xs i:=by
 unfold ent zt1
 cases zCp xs i <;> rfl
theorem zy9 {D : Nat → Bool} : ∀ {l : List Nat},(l.filterMap (zrT rr xs D)).map (·.1) = (l.filter D).filterMap (zt1 xs)
 | [] => rfl
 | i :: l => by
   have ih:=zy9 (D:=D) (l:=l)
   have hk:=zCZ (rr:=rr) (xs:=xs) i
   cases hD : D i with
   | false =>
     have : zrT rr xs D i = none:=by simp [zrT,hD]
     simp only [yb,yB,this,hD,ih]
     simp
   | true =>
     have : zrT rr xs D i = ent rr xs i:=by simp [zrT,hD]
     simp only [yb,yB,this,hD,if_true]
     cases he : ent rr xs i with
     | none =>
       rw [he] at hk
       simp only [yE] at hk
       simp only [← hk,ih]
     | some e =>
       rw [he] at hk
       simp only [yo] at hk
       simp only [← hk,ih,yF]
theorem zxY {α β : Type} {f : α → Option β} {D : α → Bool} {l : List α} (h : (l.filterMap f).Nodup) : ((l.filter D).filterMap f).Nodup :=
 h.sublist (List.filter_sublist.filterMap f)
theorem zwg (hk : zoh ((yc p).filterMap (zt1 xs)) = true) (D : Nat → Bool) : ((zbl rr xs p D).map (·.1)).Nodup:=by
 unfold zbl
 rw [zy9]
 exact zxY (znp hk)
theorem zjU {i : Nat} {x : Oper} (hx : xs[i]? = some x) : zCp xs i = zsg x:=by unfold zCp; rw [hx]
theorem zvA (hk : zoh ((yc p).filterMap (zt1 xs)) = true) {D : Nat → Bool} {j : Nat} (hj : j < p) (hD : D j = false) {n : Int} {v : V} (he : ent rr xs j = some (n,v)) :
  zif n (zbl rr xs p D) = none ∧ (zbl rr xs p D ++ [(n,v)]).Perm (zbl rr xs p (zba D j)):=by
 have hp:=zlX (f:=zrT rr xs D) (f':=zrT rr xs (zba D j)) (x:=(n,v)) yA (List.mem_range.2 hj) (fun i hi => by simp [zrT,zba,hi]) (by simp [zrT,hD]) (by simp [zrT,zba,he])
 have hn:=zwg (rr:=rr) hk (zba D j)
 refine ⟨zjO.2 fun e hee heq => ?_,hp.symm⟩
 have hn2 : ((zbl rr xs p D ++ [(n,v)]).map (·.1)).Nodup:=(hp.map (·.1)).nodup_iff.1 hn
 rw [List.map_append,List.nodup_append] at hn2
 exact hn2.2.2 e.1 (yH.2 ⟨e,hee,rfl⟩) n (by simp) heq
theorem zz9 {D : Nat → Bool} {j : Nat} (he : ent rr xs j = none) : zbl rr xs p (zba D j) = zbl rr xs p D:=by
 refine zdi fun i _ => ?_
 unfold zrT zba
 by_cases e : i = j
 ·subst e; simp [he]
 ·simp [e]
theorem zvH {x : Oper} {n : Int} {d : Nat} {y : X} (h : zsg x = .ins n d y) : x = ⟨.no,.mu (.l d) (.c (.one (.f (.lit (.int .i64 n))))) y,none⟩:=by
 unfold zsg at h
 split at h
 ·cases h
 ·injection h with h1 h2 h3; subst h1 h2 h3; rfl
 ·unfold zD4 at h
  split at h
  ·cases h
  ·split at h <;> cases h
theorem zxF {x : Oper} (h : zsg x = .mk) : x = ⟨.loc,.mkm,none⟩:=by
 unfold zsg at h
 split at h
 ·rfl
 ·cases h
 ·unfold zD4 at h
  split at h
  ·cases h
  ·split at h <;> cases h
theorem zqU {x : Oper} (h : zsg x = .quiet) : zaR x.op = 0:=by
 unfold zsg at h
 split at h
 ·cases h
 ·cases h
 ·unfold zD4 at h
  split at h
  ·cases h
  ·split at h
   ·rename_i hc; simpa using hc
   ·cases h
theorem zzo {x : Oper} (h : zsg x = .ld) : ∃ sz y,x.op = .ld sz y:=by
 unfold zsg at h
 split at h
 ·cases h
 ·cases h
 ·unfold zD4 at h
  split at h
  ·exact ⟨_,_,rfl⟩
  ·split at h <;> cases h
end
end Go.A
namespace Go.A
section
variable {P : Program} {κ : List Tmp} {nt : Nat} {gops : Array Go.Oper} {xs : List Oper} {ms : List Nat} {m0 p b l : Nat} {Cf : zad} {rr : Nat → R}
theorem zBq {g : G} {w : World} {σ : zd} {id : Nat} {es es' : List (Int × V)} (R : Rel g w σ) (hid : σ[id]? = some (.mp es)) (hp : es.Perm es') : Ext g w σ g w (σ.set id (.mp es')) ∧ Rel g w (σ.set id (.mp es')):=by
 refine replace R hid (fun _ => False) rfl rfl rfl (yi _) (fun b hb _ => ⟨rfl,rfl,fun _ h => h⟩) (fun b h => h.elim) (fun _ _ _ h => h) (fun _ _ => rfl) (fun _ _ _ => rfl) R.nb
  (fun ver' sz' len' hs => by simp [shapeOf,hid,Ob.shape] at hs) (fun es0 h => ⟨rfl,es',rfl⟩) (fun k n h => by simp [zlw,hid,Ob.fr] at h) (fun _ _ h => by cases h) (fun H => ?_)
 obtain ⟨h1,h2,zbl,clock,h3,h4⟩:=R.ob id _ hid
 exact ⟨h1,h2,zbl,clock,h3,zxe hp (H.zli h4)⟩
theorem zAd {σ σ' : zd} (hs : ∀ (id ver sz : Nat) (es : List (List C)),σ[id]? = some (.cells ver sz es) → σ'[id]? = some (.cells ver sz es)) {sz : Option Nat} {v u : V} (h : ald σ sz v = some u) : ald σ' sz v = some u:=by
 have key : ∀ {id ver i : Nat} {el : List C},σ.elem id ver i = some el → σ'.elem id ver i = some el:=fun {id ver i el} he => by
  unfold zd.elem at he ⊢
  rw [yf] at he ⊢
  obtain ⟨o,q1,q2⟩:=he
  cases o with
  | cells v' sz' es => exact ⟨_,hs id v' sz' es q1,q2⟩
  | tok _ _ => simp [Ob.elem] at q2
  | mp _ => simp [Ob.elem] at q2
 unfold ald at h ⊢
 split at h
 ·rw [yx] at h ⊢
  obtain ⟨c,q1,q2⟩:=h
  unfold zd.cell at q1 ⊢
  rw [yf] at q1
  obtain ⟨el,q3,q4⟩:=q1
  exact ⟨c,by rw [yf]; exact ⟨el,key q3,q4⟩,q2⟩
 ·exact h
 ·rw [yx] at h ⊢
  obtain ⟨c,q1,q2⟩:=h
  rw [yf] at q1
  obtain ⟨el,q3,q4⟩:=q1
  exact ⟨c,by rw [yf]; exact ⟨el,key q3,q4⟩,q2⟩
 ·exact h
 ·cases h
theorem zDB {x : Oper} {sz : Option Nat} {y : X} (hop : x.op = .ld sz y) {r r' r1 : R} (hg : ∀ z ∈ zeF x,r'.get z = r.get z) (hs : ∀ (id ver sz : Nat) (es : List (List C)),r.st[id]? = some (.cells ver sz es) → r'.st[id]? = some (.cells ver sz es)) (h : step Cf r x = some r1) :
  ∃ v,r1 = r.put x.dst v ∧ step Cf r' x = some (r'.put x.dst v):=by
 obtain ⟨d,op,gd⟩:=x
 simp only at hop
 subst hop
 have one : za5 Cf r d (.ld sz y) = some r1 → ∃ v,r1 = r.put d v ∧ za5 Cf r' d (.ld sz y) = some (r'.put d v):=fun h => by
  simp only [za5] at h ⊢
  obtain ⟨v,h1,h2⟩:=zqr h
  have hy : r'.get y = r.get y:=hg y (by simp [zeF,opX])
  exact ⟨v,h2,by rw [hy,zAd hs h1]; rfl⟩
 cases gd with
 | none => exact one h
 | some q =>
   obtain ⟨z,bb⟩:=q
   simp only [step] at h ⊢
   rw [hg z (by simp [zeF])]
   unfold znH at h ⊢
   split at h
   ·split at h
    ·rename_i hb
     rw [if_pos hb]
     exact one h
    ·rename_i hb
     rw [if_neg hb]
     injection h with h
     exact ⟨.tup [],h.symm,rfl⟩
   ·injection h with h
    exact ⟨.tup [],h.symm,rfl⟩
   ·cases h
theorem Chk3.kind (C : Chk3 P κ nt gops xs ms m0 p) {j : Nat} (hj : j < p) {x : Oper} (hx : xs[j]? = some x) : zgU gops m0 j (zsg x) = true :=
 (C.pre_some hj (ys (yn hj C.p_le)) hx).2.2.2.2
theorem zFm (C : Chk3 P κ nt gops xs ms m0 p) (hrr : ∀ i x,xs[i]? = some x → step Cf (rr i) x = some (rr (i + 1))) (h0 : (rr 0).rs = []) : ∀ j,j ≤ p →
  (rr j).st = (if m0 < j then (rr 0).st ++ [.mp ((yc j).filterMap (ent rr xs))] else (rr 0).st) ∧ (m0 < j → za6 rr m0 = .one (.map (rr 0).st.length))
 | 0,_ => ⟨by simp,fun h => by omega⟩
 | j + 1,hj => by
   obtain ⟨ih1,ih2⟩:=zFm C hrr h0 j (by omega)
   have hxl : j < xs.length:=by have:=C.w.le; omega
   have hx : xs[j]? = some xs[j]:=yd hxl
   have hk:=C.kind (by omega) hx
   have hstep:=hrr j _ hx
   have quiet : ent rr xs j = none → j ≠ m0 → (rr (j + 1)).st = (rr j).st → (rr (j + 1)).st = (if m0 < j + 1 then (rr 0).st ++ [.mp ((yc (j + 1)).filterMap (ent rr xs))] else (rr 0).st) ∧ (m0 < j + 1 → za6 rr m0 = .one (.map (rr 0).st.length)):=fun he hne hst => by
    refine ⟨?_,fun h => ih2 (by omega)⟩
    rw [hst,ih1,yy,yh]
    simp only [yb,yr,he,yp]
    by_cases h : m0 < j
    ·rw [if_pos h,if_pos (by omega)]
    ·rw [if_neg h,if_neg (by omega)]
   have hent : ent rr xs j = zDP rr j (zsg xs[j]):=by unfold ent; rw [zjU hx]
   cases hik : zsg xs[j] with
   | bad => rw [hik] at hk; simp [zgU] at hk
   | quiet =>
     rw [hik] at hent
     refine quiet hent (fun e => ?_) ?_
     ·subst e
      have:=C.ismk
      rw [zjU hx,hik] at this
      simp [zCS] at this
     ·obtain ⟨v,σ1,h1,h2⟩:=zmj hrr hx
      have hc:=zqU hik
      rw [h1,zeU]
      rcases h2 with h2 | h2
      ·exact h2
      ·exact h2.1 (by omega)
   | ld =>
     rw [hik] at hent
     refine quiet hent (fun e => ?_) ?_
     ·subst e
      have:=C.ismk
      rw [zjU hx,hik] at this
      simp [zCS] at this
     ·obtain ⟨sz,y,hop⟩:=zzo hik
      obtain ⟨v,σ1,h1,h2⟩:=zmj hrr hx
      rw [h1,zeU]
      rcases h2 with h2 | h2
      ·exact h2
      ·exact h2.1 (by rw [hop]; simp [zaR])
   | mk =>
     rw [hik] at hk hent
     simp only [zgU,beq_iff_eq] at hk
     subst hk
     have hxe:=zxF hik
     rw [hxe] at hstep
     simp only [step,za5,Option.some.injEq] at hstep
     have hnone : (yc j).filterMap (ent rr xs) = []:=by
      rw [yk]
      intro i hi
      have hij : i < j:=by simpa using hi
      have hxi : xs[i]? = some (xs[i]'(by omega)):=yd (by omega)
      have hki:=C.kind (by omega) hxi
      unfold ent
      rw [zjU hxi]
      cases hii : zsg (xs[i]'(by omega)) with
      | ins n d y =>
        rw [hii] at hki
        simp only [zgU,ya,decide_eq_true_eq,beq_iff_eq] at hki
        omega
      | _ => rfl
     refine ⟨?_,fun _ => ?_⟩
     ·rw [← hstep,yy,yh,hnone]
      simp only [yb,yr,hent,zDP,yp,if_pos (Nat.lt_succ_self j)]
      rw [if_neg (by omega)] at ih1
      simp only [R.put,R.alloc,ih1]
     ·rw [if_neg (by omega)] at ih1
      unfold za6
      rw [← hstep]
      simp [R.put,R.alloc,ih1]
   | ins n d y =>
     rw [hik] at hk hent
     simp only [zgU,ya,decide_eq_true_eq,beq_iff_eq] at hk
     obtain ⟨⟨hd,hm⟩,_⟩:=hk
     have hlt : m0 < j:=by omega
     rw [if_pos hlt] at ih1
     have hxe:=zvH hik
     rw [hxe] at hstep
     have hrs:=znG hrr h0 j (by omega)
     have hget : (rr j).get (.l d) = .one (.map (rr 0).st.length):=by
      show (rr j).rs.getD d vun = _
      rw [hrs,ye,zjh (za6 rr) hd,hm]
      exact ih2 hlt
     have hnew:=(zvA (rr:=rr) C.keys (D:=fun i => decide (i < j)) (n:=n) (v:=(rr j).get y) (by omega : j < p) (by simp) (by rw [hent]; rfl)).1
     have hents : zbl rr xs p (fun i => decide (i < j)) = (yc j).filterMap (ent rr xs):=by
      unfold zbl
      obtain ⟨q,hq⟩ : ∃ q,p = j + q:=⟨p - j,by omega⟩
      rw [hq,List.range_add,yh]
      have h1 : (yc j).filterMap (zrT rr xs fun i => decide (i < j)) = (yc j).filterMap (ent rr xs):=zdi fun i hi => by
       have : i < j:=by simpa using hi
       simp [zrT,this]
      have h2 : ((yc q).map (j + ·)).filterMap (zrT rr xs fun i => decide (i < j)) = []:=by
       rw [yk]
       intro i hi
       obtain ⟨k,_,rfl⟩:=yH.1 hi
       have : ¬ j + k < j:=by omega
       simp [zrT,this]
      rw [h1,h2,yp]
     rw [hents] at hnew
     simp only [step,za5,hget] at hstep
     have hk2 : (rr j).get (.c (.one (.f (.lit (.int .i64 n))))) = .one (.f (.lit (.int .i64 n))):=rfl
     rw [hk2] at hstep
     simp only [amu,ih1,yg,yt,Ob.entries,yo,Option.some.injEq] at hstep
     refine ⟨?_,fun _ => ih2 hlt⟩
     rw [← hstep,if_pos (by omega),yy,yh]
     simp only [yb,yr,hent,zDP,R.put,zDY,R.setOb,ih1,zia hnew]
     simp
end
end Go.A
namespace Go.A
section
variable {P : Program} {κ : List Tmp} {nt : Nat} {gops : Array Go.Oper} {xs : List Oper} {ms : List Nat} {m0 p b l : Nat} {Cf : zad} {rr : Nat → R}
theorem zA7 {D : Nat → Bool} {j : Nat} (he : ent rr xs j = none) (hne : j ≠ m0) : zgz rr xs p m0 (zba D j) = zgz rr xs p m0 D:=by
 unfold zgz
 rw [zz9 he]
 have : zba D j m0 = D m0:=by simp [zba,Ne.symm hne]
 rw [this]
theorem zEj (S : zgX P Cf) (C : Chk3 P κ nt gops xs ms m0 p) (hrr : ∀ i x,xs[i]? = some x → step Cf (rr i) x = some (rr (i + 1))) (h0 : (rr 0).rs = []) : Local P κ nt gops xs (za6 rr) (zdP rr xs p) (zgz rr xs p m0) p b l:=by
 intro j o x D g w a next Q hj ho hx hDj hE hcl hDp R0 F k
 have hpN : p ≤ xs.length:=C.w.le
 obtain ⟨c1,c2,c3,_,c5⟩:=C.pre_some hj ho hx
 have hA : ∀ i,Reach gops j i → D i = true:=fun i h => za0 hcl h hE
 have hB : ∀ i,Reach gops i j → D i = false:=fun i h => by
  cases hi : D i with
  | false => rfl
  | true =>
    have:=za0 hcl h (hcl i hi)
    rw [hDj] at this
    cases this
 let r' : R:=⟨(yc j).reverse.map (za6 rr),zdP rr xs p D,zgz rr xs p m0 D,b,l⟩
 have hrs:=znG hrr h0 j (by omega)
 obtain ⟨_,henv⟩:=zgl C.w hrr j (yG hj)
 have hget : ∀ y ∈ zeF x,r'.get y = (rr j).get y:=fun y hy => by
  cases y with
  | l d => show ((yc j).reverse.map (za6 rr)).getD d vun = (rr j).rs.getD d vun; rw [hrs]
  | c v => rfl
  | s q =>
    show (zdP rr xs p D).getD q vun = (rr j).env.getD q vun
    rw [zgH C.w hrr,henv]
    unfold zg0
    cases hi : wr xs p q with
    | none => rfl
    | some i =>
      obtain ⟨hip,x',hx',hw⟩:=zgk hi
      have hread : zfn q x = true:=by
       unfold zfn
       rw [List.any_eq_true]
       exact ⟨_,hy,by simp⟩
      have : D i = decide (i < j):=by
       rcases Nat.lt_trichotomy i j with hlt | rfl | hlt
       ·rcases (C.pair hlt hj hx' hx).1 with h | h
        ·exfalso
         unfold zgb at h
         rw [hw] at h
         simp [hread] at h
        ·rw [hA i h]; simp [hlt]
       ·rw [hDj]; simp
       ·rcases (C.pair hlt hip hx hx').1 with h | h
        ·exfalso
         unfold zgb at h
         rw [hw] at h
         simp [hread] at h
        ·rw [hB i h]; simp; omega
      simp only [this]
 have hent : ent rr xs j = zDP rr j (zsg x):=by unfold ent; rw [zjU hx]
 obtain ⟨hst,hm0⟩:=zFm C hrr h0 j (yG hj)
 have fin : ∀ {v : V} {σ1 σ2 : zd},rr (j + 1) = ((rr j).at σ1).put x.dst v → (r'.at σ2).put x.dst v = ⟨za6 rr j :: (yc j).reverse.map (za6 rr),zdP rr xs p (zba D j),σ2,b,l⟩:=fun {v σ1 σ2} h1 => by
  have he:=zow C.w hrr (D:=D) hj hx h1
  have hval : za6 rr j = (((rr j).at σ1).put x.dst v).rs.headD vun:=by unfold za6; rw [h1]
  rw [he,hval]
  cases x.dst <;> rfl
 have quietly : ent rr xs j = none → j ≠ m0 → (∃ v,rr (j + 1) = (rr j).put x.dst v ∧ step Cf r' x = some (r'.put x.dst v)) → if Region.wanted o (yielded gops a.tmps) then o.wp P a w next Q else next (a.put o.dst undef) w:=fun he hne ⟨v,h1,h2⟩ => by
  have hf : (r'.at (zgz rr xs p m0 D)).put x.dst v = _:=fin (σ1:=(rr j).st) h1
  have h2' : step Cf r' x = some ⟨za6 rr j :: (yc j).reverse.map (za6 rr),zdP rr xs p (zba D j),zgz rr xs p m0 D,b,l⟩:=by rw [h2,← hf]; rfl
  rw [← zA7 (rr:=rr) (p:=p) he hne] at h2'
  exact zev (r:=r') S R0 F c1 c2 c3 h2' (fun g' w' u H R1 _ F1 => k g' w' u H R1 F1) (fun _ h => h)
 cases hik : zsg x with
 | bad => rw [hik] at c5; simp [zgU] at c5
 | quiet =>
   rw [hik] at hent
   refine quietly hent (fun e => ?_) ?_
   ·subst e
    have:=C.ismk
    rw [zjU hx,hik] at this
    simp [zCS] at this
   ·have hc:=zqU hik
    obtain ⟨n,hn⟩:=exX (rr j).get (zeF x)
    exact zfI (r':=r') (n:=n) (by omega) hget (hn n (yi _)) (fun h => by omega) (fun h => by omega) (hrr j x hx)
 | ld =>
   rw [hik] at hent
   refine quietly hent (fun e => ?_) ?_
   ·subst e
    have:=C.ismk
    rw [zjU hx,hik] at this
    simp [zCS] at this
   ·obtain ⟨sz,y,hop⟩:=zzo hik
    refine zDB (r':=r') hop hget (fun id ver sz es hid => ?_) (hrr j x hx)
    have h1 : (rr 0).st[id]? = some (.cells ver sz es):=by
     rw [hst] at hid
     split at hid
     ·rcases Nat.lt_or_ge id (rr 0).st.length with h | h
      ·rwa [yq h] at hid
      ·rw [List.getElem?_append_right h] at hid
       cases hq : id - (rr 0).st.length with
       | zero => rw [hq] at hid; simp at hid
       | succ q => rw [hq] at hid; simp at hid
     ·exact hid
    show (zgz rr xs p m0 D)[id]? = _
    unfold zgz
    split
    ·rw [yq (zb h1)]; exact h1
    ·exact h1
 | mk =>
   rw [hik] at c5 hent
   simp only [zgU,beq_iff_eq] at c5
   subst c5
   have hxe:=zxF hik
   have hstep:=hrr j x hx
   rw [hxe] at hstep
   simp only [step,za5,Option.some.injEq] at hstep
   rw [if_neg (by omega)] at hst
   have hD0 : zgz rr xs p j D = (rr 0).st:=by unfold zgz; rw [hDj]; rfl
   have hnone : zbl rr xs p (zba D j) = []:=by
    unfold zbl
    rw [yk]
    intro i hi
    have hip : i < p:=by simpa using hi
    by_cases e : i = j
    ·subst e
     simp only [zrT,zba,if_true,hent,zDP]
    ·have hxi : xs[i]? = some (xs[i]'(by omega)):=yd (by omega)
     have hki:=C.kind hip hxi
     have : zba D j i = D i:=by simp [zba,e]
     unfold zrT
     rw [this]
     cases hDi : D i with
     | false => rfl
     | true =>
       simp only [if_true]
       unfold ent
       rw [zjU hxi]
       cases hii : zsg (xs[i]'(by omega)) with
       | ins n d y =>
         rw [hii] at hki
         simp only [zgU,ya,decide_eq_true_eq,beq_iff_eq] at hki
         have:=hcl i hDi j (by simpa using hki.2)
         rw [hDj] at this
         cases this
       | _ => rfl
   have hnew : zgz rr xs p j (zba D j) = (rr 0).st ++ [.mp []]:=by
    unfold zgz
    rw [hnone]
    simp [zba]
   have h1 : rr (j + 1) = ((rr j).at ((rr 0).st ++ [.mp []])).put x.dst (.one (.map (rr 0).st.length)):=by
    rw [← hstep,hxe]
    simp only [R.put,R.alloc,R.at,hst]
   have h2 : step Cf r' x = some ((r'.at ((rr 0).st ++ [.mp []])).put x.dst (.one (.map (rr 0).st.length))):=by
    rw [hxe]
    have hr : r'.st = (rr 0).st:=hD0
    simp only [step,za5,R.put,R.alloc,R.at,hr]
   rw [fin h1,← hnew] at h2
   exact zev (r:=r') S R0 F c1 c2 c3 h2 (fun g' w' u H R1 _ F1 => k g' w' u H R1 F1) (fun _ h => h)
 | ins n d y =>
   rw [hik] at c5 hent
   simp only [zgU,ya,decide_eq_true_eq,beq_iff_eq] at c5
   obtain ⟨⟨hd,hm⟩,hedge⟩:=c5
   have hDm : D m0 = true:=hE m0 (by simpa using hedge)
   have hlt : m0 < j:=by omega
   rw [if_pos hlt] at hst
   have hxe:=zvH hik
   have hstep:=hrr j x hx
   have hgetl : (rr j).get (.l d) = .one (.map (rr 0).st.length):=by
    show (rr j).rs.getD d vun = _
    rw [hrs,ye,zjh (za6 rr) hd,hm]
    exact hm0 hlt
   have hg1 : r'.get (.l d) = .one (.map (rr 0).st.length):=by rw [hget _ (by rw [hxe]; simp [zeF,opX])]; exact hgetl
   have hg2 : r'.get y = (rr j).get y:=hget _ (by rw [hxe]; simp [zeF,opX])
   have hr : r'.st = (rr 0).st ++ [.mp (zbl rr xs p D)]:=by show zgz rr xs p m0 D = _; unfold zgz; rw [hDm]; rfl
   obtain ⟨hnone,hperm⟩:=zvA (rr:=rr) C.keys (n:=n) (v:=(rr j).get y) hj hDj (by rw [hent]; rfl)
   have hnew : zgz rr xs p m0 (zba D j) = (rr 0).st ++ [.mp (zbl rr xs p (zba D j))]:=by
    unfold zgz
    have : zba D j m0 = true:=by simp [zba,hDm]
    rw [this]
    rfl
   have h1 : ∃ σ1,rr (j + 1) = ((rr j).at σ1).put x.dst vun:=by
    rw [hxe] at hstep
    have hk2 : (rr j).get (.c (.one (.f (.lit (.int .i64 n))))) = .one (.f (.lit (.int .i64 n))):=rfl
    simp only [step,za5,hgetl,hk2] at hstep
    simp only [amu,hst,yg,yt,Ob.entries,yo,Option.some.injEq] at hstep
    rw [← hstep,hxe]
    exact ⟨_,rfl⟩
   obtain ⟨σ1,h1⟩:=h1
   have h2 : step Cf r' x = some ((r'.at ((rr 0).st ++ [.mp (zbl rr xs p D ++ [(n,(rr j).get y)])])).put x.dst vun):=by
    rw [hxe]
    have hk2 : r'.get (.c (.one (.f (.lit (.int .i64 n))))) = .one (.f (.lit (.int .i64 n))):=rfl
    simp only [step,za5,hg1,hk2,hg2]
    simp only [amu,hr,yg,yt,Ob.entries,yo,zDY,R.setOb,zia hnone,R.put,R.at]
    simp
   rw [fin h1] at h2
   refine zev (r:=r') S R0 F c1 c2 c3 h2 (fun g' w' u H R1 _ F1 => ?_) (fun _ h => h)
   have hid : ((rr 0).st ++ [Ob.mp (zbl rr xs p D ++ [(n,(rr j).get y)])])[(rr 0).st.length]? = some (.mp (zbl rr xs p D ++ [(n,(rr j).get y)])):=by simp
   obtain ⟨H2,R2⟩:=zBq R1 hid hperm
   have hset : ((rr 0).st ++ [Ob.mp (zbl rr xs p D ++ [(n,(rr j).get y)])]).set (rr 0).st.length (.mp (zbl rr xs p (zba D j))) = zgz rr xs p m0 (zba D j):=by rw [hnew]; simp
   have H2' : Ext g' w' ((rr 0).st ++ [.mp (zbl rr xs p D ++ [(n,(rr j).get y)])]) g' w' (zgz rr xs p m0 (zba D j)):=by rw [← hset]; exact H2
   have R2' : Rel g' w' (zgz rr xs p m0 (zba D j)):=by rw [← hset]; exact R2
   exact k g' w' u (H.trans H2') R2' (F1.ext H2' rfl rfl)
theorem zx3 (hm : P.follows .mixedOrders = true) (Cf : zad) (S : zgX P Cf) (κ : List Tmp) (nt id : Nat) (gops : Array Go.Oper) (xs : List Oper) (hchk : zvT P κ nt gops xs = true) (r r1 : R) (hr0 : r.rs = []) (hsteps : steps Cf xs r = some r1) : zzC P κ nt id gops r r1:=by
 intro g w a Q R0 F hend
 obtain ⟨ms,m0,p,C⟩:=zCD hchk
 obtain ⟨rr,k1,k2,hrr⟩:=zlQ xs r r1 hsteps
 have h0 : (rr 0).rs = []:=by rw [k1]; exact hr0
 have hpN : p ≤ xs.length:=C.w.le
 refine wp_region_any hm ?_
 obtain ⟨D1,D2⟩:=drawn R0 1
 have hDof : ∀ i,Dof (yu gops.size false) i = false:=fun i => by
  unfold Dof
  rw [Array.getD_eq_getD_getElem?,Array.getElem?_replicate]
  split <;> rfl
 have hst0 : zgz rr xs p m0 (Dof (yu gops.size false)) = r.st:=by
  unfold zgz
  rw [hDof,k1]
  rfl
 have henv0 : ∀ q,(zdP rr xs p (Dof (yu gops.size false))).getD q vun = r.env.getD q vun:=fun q => by
  rw [zgH C.w hrr]
  unfold zg0
  split <;> simp [hDof,k1]
 have hend' : ∀ g' w' a' loc,Ext g w r.st g' w' (rr gops.size).st → Rel g' w' (rr gops.size).st → Fr κ loc nt g' w' (rr gops.size) a' → Q .normal a' w':=fun g' w' a' loc H R1 F1 => by
  rw [← C.len,k2] at H R1 F1
  exact hend g' w' a' loc H R1 F1
 refine zuD (b:=0) (l:=0) (v:=za6 rr) (envD:=zdP rr xs p) (σD:=zgz rr xs p m0) (g0:=g) (w0:=w) (σ0:=r.st) (rr:=rr) S C.plan (zEj S C hrr h0) hrr (znG hrr h0 p hpN) (fun D => by simp [zdP,k1,F.len]) F.nd F.bd (fun D hD => ⟨?_,?_⟩) hend' gops.size (yu gops.size false) g (w.drewN 1) a (by simp) (fun i _ => hDof i) (fun j hj => by rw [hDof] at hj; cases hj) ?_ ⟨?_,?_,F.size,F.df,fun i t ht => ?_,fun i t _ hD => by rw [hDof] at hD; cases hD⟩
 ·
  have h:=(zFm C hrr h0 p (yi _)).1
  rw [if_pos C.m0p] at h
  rw [h]
  unfold zgz
  rw [hD]
  simp only [C.m0p,decide_true,if_true]
  congr 3
  exact zdi fun i hi => by
   have : i < p:=by simpa using hi
   simp [zrT,hD,this]
 ·
  obtain ⟨q1,q2⟩:=zgl C.w hrr p (yi _)
  refine List.ext_getElem? fun q => ?_
  by_cases hq : q < (rr 0).env.length
  ·have e1:=zgH (D:=D) (q:=q) C.w hrr
   have e2:=q2 q
   have e3 : zg0 rr xs p D q = zg0 rr xs p (fun k => decide (k < p)) q:=by
    congr 1
    funext k
    exact hD k
   rw [e3,← e2] at e1
   rw [ye,ye] at e1
   have l1 : q < (zdP rr xs p D).length:=by simpa [zdP] using hq
   have l2 : q < (rr p).env.length:=by omega
   rw [yd l1,yd l2] at e1 ⊢
   simpa using e1
  ·rw [yv (by simp [zdP]; omega),yv (by omega)]
 ·
  unfold left
  exact Nat.le_trans (List.length_filter_le _ _) (by simp)
 ·rw [hst0]; exact D1
 ·rw [hst0]; exact D2
 ·rw [hst0,henv0]
  exact D1.zf _ _ (F.env i t ht)
end
end Go.A
namespace Go.A
attribute [go_sem] R.get R.put V.cells C.kns Ob.elem zd.elem zd.cell zDp upd Ob.write R.setOb R.alloc R.write zFW zCh ziY vsl vf zAo vfp zER V.c1 zFw zzg zFv zsi zEW aun zjV zEP zE5 zEX
 zui zfO zdo zaq Ob.frz zC9 zpK elems Ob.front Ob.setFront Ob.grow Ob.isRow zor ztE znw zCM zjp zEA zmU znS zf4 tokens zCv zDQ R.allocs aal zDT zv3 zDb zyY
 zEz zAI afa zEM ztT aia zES cut ald ast nest zDU zEc zEs zpQ zAz bound zya zAk zDi two zuh zB5 zEt zuz zFL zE6 zD1 zEY single zE4 byteOf bytesOf zFN zE1 zAu zFz zuk zvj zEa zBp zE2 zAZ zBW zET Ob.entries zDn alk zDY amu zif zl1
 C.shift C.shifts V.shift V.shifts Ob.shift ztW V.plain V.plains zvV zvS zvP closed znQ R.gets anl za5 znH step steps clr zlW St.mkSt St.clear zDS findLabel enter zsC zz5 zCx zBH zix outs zCs zlD leave
 zsm zsa ztt zpN scK zza vun C.lt C.lts V.lt V.lts C.ltss C.ltm Ob.lt Obs.lt
attribute [go_sem] zg7 zqK zzB zyj zA5 zAw zgu zyU zws zmH
attribute [go_sem] List.getD_cons_zero List.getD_cons_succ List.set_cons_zero List.set_cons_succ List.nil_append List.cons_append yp List.append_assoc List.length_cons List.length_nil List.length_append List.length_map
 yF List.map_nil List.getElem?_cons_zero List.getElem?_cons_succ List.take_succ_cons List.take_zero List.drop_succ_cons List.drop_zero List.any_cons List.any_nil List.replicate_succ List.replicate_zero List.take_nil List.drop_nil
 yo yE yt Option.bind_none if_true if_false Bool.false_eq_true Bool.or_false Bool.or_true Bool.false_or Bool.true_or Bool.not_true Bool.not_false Bool.true_and Bool.and_true Bool.false_and Bool.and_false Function.comp
 Nat.zero_add Nat.add_zero Nat.reduceAdd Nat.reduceSub Nat.reduceLeDiff Nat.reduceMul decide_true decide_false reduceCtorEq not_true_eq_false not_false_eq_true Nat.reduceEqDiff Nat.reduceLT Int.reduceLT Int.reduceLE Int.reduceToNat yi Option.isSome_none Option.isSome_some
 true_and and_true decide_eq_true_eq Bool.and_self Bool.or_self ite_true ite_false Nat.succ_ne_self
end Go.A
namespace Go.A.Lex
abbrev t : Bool:=true
abbrev f : Bool:=false
@[go_sem] abbrev q (op : Op) : Oper:=⟨.loc,op,none⟩
@[go_sem] abbrev e (op : Op) : Oper:=⟨.no,op,none⟩
@[go_sem] abbrev w (t : Nat) (op : Op) : Oper:=⟨.slot t,op,none⟩
@[go_sem] abbrev i (n : Int) : X:=.c (.one (.f (.lit (.int .i64 n))))
@[go_sem] abbrev ik (k : IntKind) (n : Int) : X:=.c (.one (.f (.lit (.int k n))))
@[go_sem] abbrev bo (b : Bool) : X:=.c (.one (.f (.lit (.bool b))))
attribute [go_sem] t f
end Go.A.Lex
namespace Go.A
section
variable {P : Program} {κ : List Tmp} {nt : Nat}
theorem wpOps_cons {ops : Array Go.Oper} {Q : Exit → Act → World → Prop} {i : Nat} {is : List Nat} {a : Act} {w : World} {o : Go.Oper} (ho : ops[i]? = some o) (hg : o.guard = none) (h : o.wp P a w (wpOps P ops Q is) Q) : wpOps P ops Q (i :: is) a w:=by
 simp only [wpOps,ho]
 rw [if_pos (by simp [Region.wanted,hg])]
 exact .inl h
end
end Go.A
namespace Go.A
section
variable {P : Program} {κ : List Tmp} {nt : Nat}
theorem Fr.tmp {g : G} {w : World} {r : R} {a : Act} (F : Fr κ [] nt g w r a) {t : Tmp} (ht : κ.contains t = false) (hlt : t < nt) (u : Value) : Fr κ [] nt g w r (a.put (some t) u):=by
 have h:=F.put (t:=some t) (d:=.loc) (v:=vun) (u:=u) (by simp only [okD,ya,yl,decide_eq_true_eq]; exact ⟨ht,hlt⟩) (fun _ => by simp [vun,zf,zw])
 exact ⟨h.size,h.len,h.env,fun d t h => by simp at h,fun d t h => by simp at h,h.nd,h.bd,h.df⟩
theorem zDe {a : Act} {t : Tmp} {u : Value} (h : t < a.tmps.size) : (a.put (some t) u).tmps.getD t undef = u:=by
 simp only [Act.put,zhm]
 simp [h]
theorem zB3 {a : Act} {d : Option Tmp} {u : Value} : (a.put d u).tmps.size = a.tmps.size:=by
 cases d <;> simp [Act.put]
theorem zrW {a : Act} {t : Tmp} : a.eval (.tmp t) = a.tmps.getD t undef:=rfl
structure Cp (κ : List Tmp) (nt : Nat) (g0 : G) (w0 : World) (σ0 σ : zd) (env : List V) (b l id id' bm clock : Nat) (zbl : Array MapEntry) (tit r : Nat) (seen : Array Nat) (ds : List (Int × V)) (g : G) (w : World) (a : Act) : Prop where
 ext : Ext g0 w0 σ0 g w (σ.set id' (.mp ds))
 rel : Rel g w (σ.set id' (.mp ds))
 fr : Fr κ [] nt g w ⟨[],env,σ.set id' (.mp ds),b,l⟩ a
 it : a.tmps.getD tit undef = .pointer (some ⟨r,0,none⟩)
 hr : ∃ c0,clock ≤ c0 ∧ w.heap[r]? = some (.mapIter (some bm) clock seen c0)
 hb : w.heap[bm]? = some (.map zbl clock)
 rho : g.ρ id = bm
 ow : g.ow r = .no
 no : ∀ o,¬ g.N r o
 new : w0.heap.size ≤ r
end
end Go.A
namespace Go.A
section
variable {P : Program} {κ : List Tmp} {nt : Nat}
structure Nums where
 tm : Nat
 tit : Nat
 t21 : Nat
 t22 : Nat
 t23 : Nat
 t24 : Nat
 t25 : Nat
 t7 : Nat
 t6 : Nat
 t26 : Nat
 t27 : Nat
 t28 : Nat
 t29 : Nat
 t5 : Nat
 mt : Nat
 ty : Nat
 fi : Nat
 lt : Nat
 dt : Nat
def Nums.fresh (n : Nums) : List Nat:=[n.tit,n.t21,n.t22,n.t23,n.t24,n.t25,n.t7,n.t6,n.t26,n.t27,n.t28,n.t29]
structure TyOk (P : Program) (n : Nums) (off sz row : Nat) : Prop where
 zs : ∃ zs : List Value,zeroOf P n.ty = some zs ∧ zs.length = row
 rsz : zhI P n.ty = some row
 row0 : 0 < row
 fld : ∃ fs f k,P.underlying n.ty = some (.struct fs) ∧ fs[n.fi]? = some f ∧ zhI P f.type = some k ∧ k ≠ 0 ∧ f.offset = off
 agg : zjL P n.lt = some true
 lsz : zhI P n.lt = some sz
 dt : ∃ key elem,P.underlying n.dt = some (.map key elem) ∧ P.underlying key = some (.int .i64)
theorem zkP {id : Nat} {ops : Array Go.Oper} {Q : Exit → Act → World → Prop} {a : Act} {w : World} (h : wpOps P ops Q (yz 0 ops.toList.length) a w) : (Go.Code.region id ops false).wp P Q a w:=by
 refine wp_region ?_
 rw [List.range_eq_range']
 simpa using h
theorem zB4 {ops : Array Go.Oper} {Q : Exit → Act → World → Prop} {i m : Nat} {a : Act} {w : World} {o : Go.Oper} (ho : ops[i]? = some o) (hg : o.guard = none) (h : o.wp P a w (wpOps P ops Q (yz (i + 1) m)) Q) : wpOps P ops Q (yz i (m + 1)) a w:=by
 rw [List.range'_succ]
 exact wpOps_cons ho hg h
theorem Fr.tr {g g' : G} {w w' : World} {σ σ' : zd} {env : List V} {b l : Nat} {a : Act} (F : Fr κ [] nt g w ⟨[],env,σ,b,l⟩ a) (tr : ∀ v u,zf g w σ v u → zf g' w' σ' v u) : Fr κ [] nt g' w' ⟨[],env,σ',b,l⟩ a :=
 ⟨F.size,F.len,fun i t h => tr _ _ (F.env i t h),fun d t h => by simp at h,fun d t h => by simp at h,F.nd,F.bd,F.df⟩
structure PutS (κ : List Tmp) (nt : Nat) (a a1 : Act) (t : Tmp) (u : Value) : Prop where
 size : a.tmps.size = nt → a1.tmps.size = nt
 val : a.tmps.size = nt → a1.tmps.getD t undef = u
 other : ∀ t',t' ≠ t → a1.tmps.getD t' undef = a.tmps.getD t' undef
 fr : ∀ {g : G} {w : World} {r : R},Fr κ [] nt g w r a → Fr κ [] nt g w r a1
theorem zFX {a : Act} {t : Tmp} (u : Value) (h : κ.contains t = false ∧ t < nt) : PutS κ nt a (a.put (some t) u) t u :=
 ⟨fun hs => by rw [zB3,hs],fun hs => zDe (by rw [hs]; exact h.2),fun t' ht => zmk (fun e => ht (by injection e with e; exact e.symm)),fun F => F.tmp h.1 h.2 u⟩
theorem zrt {ops : Array Go.Oper} {Q : Exit → Act → World → Prop} {i m : Nat} {a : Act} {w w' : World} {o : Go.Oper} {t : Tmp} {u : Value} (ho : ops[i]? = some o) (hg : o.guard = none) (hd : o.dst = some t) (ht : κ.contains t = false ∧ t < nt)
  (hrun : (execOp a.eval o).run P w = .ok (.value u) w') (k : ∀ a1,PutS κ nt a a1 t u → wpOps P ops Q (yz (i + 1) m) a1 w') : wpOps P ops Q (yz i (m + 1)) a w :=
 zB4 ho hg (zmw hrun (by rw [hd]; exact k _ (zFX u ht)))
theorem zs6 {a : Act} {w : World} {o : Go.Oper} {t : Tmp} {u : Value} (ho : o.op = .assign (.tmp t) ∨ o.op = .move (.tmp t)) (h : a.tmps.getD t undef = u) : (execOp a.eval o).run P w = .ok (.value u) w:=by
 unfold execOp
 rcases ho with ho | ho <;> simp only [ho,zrW,h] <;> simp
end
end Go.A
namespace Go.A
open Go.ChangeMaps (setBlock)
section
variable {P : Program} {κ : List Tmp} {nt : Nat}
end
end Go.A
namespace Go.A
section
variable {P : Program} {κ : List Tmp} {nt : Nat}
end
end Go.A
namespace Go.A
def zsj (P : Program) : Draws:=⟨fun κ nt gops xs => zrP P κ nt gops xs || zvT P κ nt gops xs,zn8 P,fun _ _ _ _ => false⟩
theorem zvC {P : Program} (hm : P.follows .mixedOrders = true) : DrawOk P (zsj P) where
 a:=fun Cf S κ nt id gops xs h r r1 h0 hs => by
   simp only [zsj,yw] at h
   rcases h with h | h
   ·exact zCE hm Cf S κ nt id gops xs h r r1 h0 hs
   ·exact zx3 hm Cf S κ nt id gops xs h r r1 h0 hs
 b:=fun Cf S κ nt id gops ps xs h r r1 h0 hs => zDv hm Cf S κ nt id gops ps xs h r r1 h0 hs
 lab:=fun _ _ _ _ h => by cases h
 c:=fun _ _ _ _ h => by cases h
def zm1 : Option Fun → Option Entry
 | some f => some (.fn f)
 | none => none
def zt6 (rows : List (List (Option Fun))) (n : Nat) : Option Entry:=zm1 (((rows[n / 16]?).bind (·[n % 16]?)).getD none)
end Go.A
namespace Go.A
open Go.RowKit (Below)
def zvh : List Fz → Option Int
 | [.lit (.int .i64 x)] => some x
 | _ => none
def zgi : List (List Fz) → Option (List Int)
 | [] => some []
 | r :: rs => zfO (zvh r) (zgi rs)
def zbX (l : List Int) : List Int:=l.mergeSort fun x y => decide (x ≤ y)
def zl : List Int → List Int
 | [] => []
 | [x] => [x]
 | x :: y :: r => if x = y then zl (y :: r) else x :: zl (y :: r)
def zj (x : Int) : List C:=[.f (.lit (.int .i64 x))]
def zxj (x : Int) : List Fz:=[.lit (.int .i64 x)]
def zmq (σ : zd) (l : List Int) : Option (V × zd) :=
 if l.length ≤ LIM then some (.one (.own σ.length 0 0 l.length),σ ++ [.cells 0 1 ((zbX l).map zj)]) else none
def zl3 (σ : zd) : Option C → Option (V × zd)
 | some (.f (.sl xs)) => (zgi xs).bind (zmq σ)
 | _ => none
def zgT (fv : Nat) : List V → zd → Option (V × zd)
 | [.one (.fn g [] [.ptr id ver i o])],σ => if g = fv ∧ o = 0 then zl3 σ (σ.cell id ver i 0) else none
 | _,_ => none
def zhO (ver n : Nat) : Ob → Option (List Int)
 | .cells ver' sz es => if ver' = ver ∧ sz = 1 ∧ es.length = n ∧ n ≤ LIM then (zaq es).bind zgi else none
 | _ => none
def zom (σ : zd) (id ver : Nat) (l : List Int) : V × zd:=(.tup [],σ.set id (.cells ver 1 ((zbX l).map zj)))
def zlt : List V → zd → Option (V × zd)
 | [.one (.f (.sl []))],σ => some (.tup [],σ)
 | [.one (.own id ver 0 n)],σ => ((σ[id]?).bind (zhO ver n)).map (zom σ id ver)
 | _,_ => none
def zkn (σ : zd) (id ver : Nat) (l : List Int) : V × zd:=(vsl ((zl l).map zxj),σ.set id (.cells (ver + 1) 1 []))
def zfl : List V → zd → Option (V × zd)
 | [.one (.f (.sl []))],σ => some (vsl [],σ)
 | [.one (.own id ver 0 n)],σ => ((σ[id]?).bind (zhO ver n)).map (zkn σ id ver)
 | _,_ => none
theorem zAg {g : G} {w w' : World} {σ : zd} (R : Rel g w σ) (h : Below w.heap.size w w') : Ext g w σ g w' σ ∧ Rel g w' σ:=by
 have H : Ext g w σ g w' σ:={
  os:=h.os
  tape:=h.tape
  output:=h.output
  size:=h.size
  keeps:=fun b o hb => ⟨hb,by
   unfold World.cell?
   rw [h.block b (R.nb b o hb)]⟩
  len:=yi _
  shape:=fun id ver sz len hs => .inl ⟨hs,rfl,fun _ arr t ha => ⟨arr,by rw [h.block _ (yj.1 ha).1]; exact ha,rfl⟩⟩
  map:=fun id es he => ⟨rfl,es,he⟩
  tok:=fun t k n hn => ⟨n,hn,yi _,fun _ => rfl⟩
  tsz:=fun _ _ hs => hs
  ow:=fun _ _ => rfl
  new:=fun _ _ hn _ _ => hn
  frame:=fun b hb _ => h.block b hb }
 exact ⟨H,fun b o hb => yn (R.nb b o hb) h.size,fun id ob ho => zcM H rfl (fun _ => rfl) (fun b hb _ => ⟨h.block b hb,rfl,fun _ hn => hn⟩) (R.ob id ob ho)⟩
end Go.A
namespace Go.A
def zjC : Nat → Option Entry:=fun _ => none
theorem zpk {P : Program} (n : Nat) : zgX P (zfy zjC (zN zjC n)):=fun _ _ _ _ _ h => by simp [zfy,zjC] at h
structure TwoOk (P : Program) (CD : Draws) (κ : List Tmp) (gf : Func) (fn1 fn2 : Fun) (c0 c1 c2 : Code) (i0 i1 : Nat) (r0 : Array Go.Oper) (o1 o2 : Go.Oper) (ga gb : Go.Code) (t3 t4 ty ty' ty'' : Nat) : Prop where
 body : gf.body = some (.seq (.region i0 r0 false) (.seq (.seq (.region i1 #[o1,o2] false) (.cond (.tmp t4) ga .skip)) gb))
 b1 : fn1.body = .seq c0 c1
 b2 : fn2.body = .seq c0 c2
 k0 : zo P CD κ gf.ntmps (.region i0 r0 false) c0 = true
 k1 : zo P CD κ gf.ntmps ga c1 = true
 k2 : zo P CD κ gf.ntmps gb c2 = true
 e1 : o1.guard = none ∧ o1.dst = some t3 ∧ o1.op = .move (.tmp 0)
 e2 : o2.guard = none ∧ o2.dst = some t4 ∧ o2.op = .binOp .eql ty (.tmp t3) (.const (.slice none 0 0)) ty'
 ne : t3 ≠ t4
 f3 : κ.contains t3 = false ∧ t3 < gf.ntmps
 f4 : κ.contains t4 = false ∧ t4 < gf.ntmps
 arg : κ[0]? = some 0
 ty : P.underlying ty = some (.slice ty'')
 nd : zjo κ = true
 all : κ.all (fun t => decide (t < gf.ntmps)) = true
 same : fn1.np = fn2.np ∧ fn1.nslots = fn2.nslots ∧ fn1.keep = fn2.keep
 len : κ.length = fn2.nslots
 np : fn2.np ≤ fn2.nslots
 np2 : fn2.np ≤ gf.ntmps
 hd : κ.take fn2.np = yc fn2.np
 q1 : zja P κ gf.results.toList fn1.results = true
 q2 : zja P κ gf.results.toList fn2.results = true
section
variable {P : Program} {CD : Draws} {κ : List Tmp}
theorem zAf (hD : DrawOk P CD) {f : Nat} {gf : Func} {fn1 fn2 : Fun} {c0 c1 c2 : Code} {i0 i1 : Nat} {r0 : Array Go.Oper} {o1 o2 : Go.Oper} {ga gb : Go.Code} {t3 t4 ty ty' ty'' : Nat} (hgf : P.funcs[f]? = some gf) (T : TwoOk P CD κ gf fn1 fn2 c0 c1 c2 i0 i1 r0 o1 o2 ga gb t3 t4 ty ty' ty'')
  {xs : List (List Fz)} {σ : zd} {v : V} {σ' : zd} {n0 n2 : Nat} {s0 s2 : St} {e2 : Ex} (h0 : zN zjC n0 c0 (enter fn2 [vsl xs] σ) = some (.normal,s0)) (h0e : s0.env.getD 0 vun = vsl xs) (h2 : zN zjC n2 c2 s0 = some (e2,s2)) (l2 : leave fn2.raw fn2.results (e2,s2) = some (v,σ'))
  (h1 : xs = [] → ∃ n1 s1,zN zjC n1 c1 s0 = some (.ret,s1) ∧ leave fn1.raw fn1.results (.ret,s1) = some (v,σ')) (hnp : fn2.np = 1) {g : G} {w : World} {us : List Value} (R0 : Rel g w σ) (hv : zz g w σ [vsl xs] us) :
  Calls P f us.toArray w fun e w' => ∃ u g',e = .returned u ∧ zf g' w' σ' v u ∧ Rel g' w' σ' ∧ Ext g w σ g' w' σ':=by
 have hA:=zk7 (gf:=gf) (fn:=fn2) R0 hv T.nd T.all T.len T.np T.np2 T.hd (by rw [hnp]; rfl)
 have hall:=fun n => zob (P:=P) (CD:=CD) (T:=zjC) (g0:=g.clean σ.length) (w0:=w) (σ0:=σ) (κ:=κ) (nt:=gf.ntmps) hD (zfM g σ.length) n fun m _ => zpk m
 have hb0:=zdj zjC n0 _ _ _ _ h0
 have hfin : ∀ (fn : Fun) (e : Ex) (s : St),zja P κ gf.results.toList fn.results = true → leave fn.raw fn.results (e,s) = some (v,σ') → s.lim = (enter fn2 [vsl xs] σ).lim → ∀ x a' w',zCk (g.clean σ.length) w σ κ gf.ntmps e s x a' w' →
   bodyPost P gf (fun e w' => ∃ u g',e = .returned u ∧ zf g' w' σ' v u ∧ Rel g' w' σ' ∧ Ext g w σ g' w' σ') x a' w' ∧ x = zkz e:=fun fn e s hok hleave hlim x a' w' hx => by
  obtain ⟨rfl,g',A'⟩:=hx
  obtain ⟨q1,q2,u,q3,g2,q4,q5,q6⟩:=zlj (fn:=fn) (gf:=gf) (zfM g σ.length) (by rw [hlim]; exact Nat.le_add_right _ _) hok hleave A'
  have hend : a'.defers = [] ∧ ∃ v1,(results gf a'.tmps).run P w' = .ok v1 w' ∧ ∃ u g',(Ending.returned v1) = .returned u ∧ zf g' w' σ' v u ∧ Rel g' w' σ' ∧ Ext g w σ g' w' σ' :=
   ⟨q2,u,q3,u,G.under g w g2,rfl,zg1 (g:=g2) (g':=G.under g w g2) rfl rfl rfl _ _ q4,zpn q6 q5,zoH q6⟩
  rcases q1 with rfl | rfl
  ·exact ⟨hend,rfl⟩
  ·exact ⟨hend,rfl⟩
 refine calls_of_wp hgf T.body (wp_seq (wp_mono ((hall n0).1 _ c0 _ .normal s0 T.k0 h0 _ _ _ (yi _) hA) fun x a1 w1 hx => ?_))
 obtain ⟨rfl,g1,A1⟩:=hx
 show Exit.then _ _ .normal a1 w1
 simp only [Exit.then]
 have hsz:=A1.fr.size
 have hu:=A1.fr.env 0 0 T.arg
 simp only [h0e] at hu
 simp only [vsl,zf,zw,rep] at hu
 obtain ⟨ad,c,sz,hu,_,_,hnil⟩:=hu
 refine wp_seq (wp_seq (zkP ?_))
 refine zrt (o:=o1) rfl T.e1.1 T.e1.2.1 T.f3 (zs6 (.inr T.e1.2.2) hu) fun a2 P2 => ?_
 refine zrt (o:=o2) (u:=.bool ad.isNone) (w':=w1) rfl T.e2.1 T.e2.2.1 T.f4 ?_ fun a3 P3 => ?_
 ·unfold execOp
  simp only [T.e2.2.2,zrW,P2.val hsz,Act.eval]
  simp [eqGuard,Lib.run_eql_slice_nil w1 ty ty'' ad xs.length c 0 0 T.ty]
 show Exit.then _ _ .normal a3 w1
 simp only [Exit.then]
 have A3 : At' (g.clean σ.length) w σ κ gf.ntmps g1 w1 s0 a3:=⟨A1.ext,A1.rel,P3.fr (P2.fr A1.fr)⟩
 have hle : σ.length ≤ s0.base:=by rw [hb0.1]; exact yi _
 cases ad with
 | none =>
   have hxs : xs = []:=by
    rcases hnil with h | ⟨b,o,h,_⟩
    ·exact h
    ·cases h
   obtain ⟨n1,s1,h1a,h1b⟩:=h1 hxs
   have hb1:=zdj zjC n1 _ _ _ _ h1a
   refine wp_cond_true (P3.val (P2.size hsz)) (wp_mono ((hall n1).1 ga c1 s0 .ret s1 T.k1 h1a _ _ _ hle A3) fun x a4 w4 hx => ?_)
   obtain ⟨k1,k2⟩:=hfin fn1 .ret s1 T.q1 h1b (by rw [hb1.2,hb0.2]) x a4 w4 hx
   subst k2
   simp only [zkz,Exit.then]
   exact k1
 | some ad =>
   have hb2:=zdj zjC n2 _ _ _ _ h2
   refine wp_cond_false (P3.val (P2.size hsz)) (wp_skip ?_)
   simp only [Exit.then]
   exact wp_mono ((hall n2).1 gb c2 s0 e2 s2 T.k2 h2 _ _ _ hle A3) fun x a4 w4 hx => (hfin fn2 e2 s2 T.q2 l2 (by rw [hb2.2,hb0.2]) x a4 w4 hx).1
def zoA (t3 t4 : Nat) (o1 o2 : Go.Oper) : Bool:=o1.guard.isNone && o1.dst == some t3 && o2.guard.isNone && o2.dst == some t4 &&
 (match o1.op with
  | .move (.tmp 0) => true
  | _ => false) && (match o2.op with
  | .binOp .eql _ (.tmp t) (.const (.slice none 0 0)) _ => t == t3
  | _ => false)
def zAs (o : Go.Oper) : Nat × Nat:=match o.op with
 | .binOp _ t _ _ t' => (t,t')
 | _ => (0,0)
theorem zkC {t3 t4 : Nat} {o1 o2 : Go.Oper} (h : zoA t3 t4 o1 o2 = true) : (o1.guard = none ∧ o1.dst = some t3 ∧ o1.op = .move (.tmp 0)) ∧ (o2.guard = none ∧ o2.dst = some t4 ∧ o2.op = .binOp .eql (zAs o2).1 (.tmp t3) (.const (.slice none 0 0)) (zAs o2).2):=by
 unfold zoA at h
 simp only [ya,Option.isNone_iff_eq_none,beq_iff_eq] at h
 obtain ⟨⟨⟨⟨⟨h1,h2⟩,h3⟩,h4⟩,h5⟩,h6⟩:=h
 refine ⟨⟨h1,h2,?_⟩,h3,h4,?_⟩
 ·split at h5
  ·assumption
  ·cases h5
 ·unfold zAs
  split at h6
  ·rename_i heq
   rw [heq]
   simp only [beq_iff_eq] at h6
   rw [h6]
  ·cases h6
def zpq (P : Program) (t : Nat) : Bool:=match P.underlying t with
 | some (.slice _) => true
 | _ => false
def znE (P : Program) (CD : Draws) (κ : List Tmp) (gf : Func) (fn1 fn2 : Fun) : Bool:=match gf.body,fn1.body,fn2.body with
 | some (.seq (.region i0 r0 false) (.seq (.seq (.region _ ⟨[o1,o2]⟩ false) (.cond (.tmp t4) ga .skip)) gb)),.seq c0 c1,.seq c0' c2 =>
   zo P CD κ gf.ntmps (.region i0 r0 false) c0 && zo P CD κ gf.ntmps (.region i0 r0 false) c0' && zo P CD κ gf.ntmps ga c1 && zo P CD κ gf.ntmps gb c2 && (match o1.dst with
    | some t3 => zoA t3 t4 o1 o2 && t3 != t4 && !κ.contains t3 && decide (t3 < gf.ntmps)
    | none => false) && !κ.contains t4 && decide (t4 < gf.ntmps) && κ[0]? == some 0 && zpq P (zAs o2).1 && zjo κ && κ.all (fun t => decide (t < gf.ntmps)) && κ.length == fn2.nslots && decide (fn2.np ≤ fn2.nslots) && decide (fn2.np ≤ gf.ntmps) && (κ.take fn2.np == yc fn2.np) && zja P κ gf.results.toList fn1.results && zja P κ gf.results.toList fn2.results
 | _,_,_ => false
def zm4 : Code:=.reg [⟨.slot 1,.mv (.c (.one (.f (.sl [])))),none⟩]
def zoF : Code:=.seq (.reg [⟨.slot 1,.mv (.c (.one (.f (.sl [])))),none⟩]) (.ret [false,true])
def zoX (sz : Nat) : Code:=.seq (.reg [⟨.loc,.bsl .tk sz [] [],none⟩,⟨.loc,.mv (.s 0),none⟩,⟨.loc,.app sz (.l 1) (.l 0),none⟩,⟨.slot 1,.mv (.l 0),none⟩]) (.ret [false,true])
def zgw : Fun:=⟨1,2,0,false,[(1,none)],.seq zm4 zoF⟩
def zfr (sz : Nat) : Fun:=⟨1,2,0,false,[(1,none)],.seq zm4 (zoX sz)⟩
def zog (sz : Nat) : List V → zd → Option (V × zd)
 | [.one (.f (.sl xs))],[] => if znw sz xs = true ∧ xs.length ≤ LIM then some (.one (.f (.sl xs)),[]) else none
 | _,_ => none
theorem zyt (hD : DrawOk P CD) {f : Nat} {gf : Func} {sz : Nat} (hgf : P.funcs[f]? = some gf) (hname : (gf.name == "runtime.NumGoroutine") = false) (hc : znE P CD [0, 2] gf zgw (zfr sz) = true) (args : List V) (σ : zd) (v : V) (σ' : zd) (h : zog sz args σ = some (v, σ')) :
  Enters P f ∧ ∀ g w us,Rel g w σ → zz g w σ args us → Calls P f us.toArray w fun e w' => ∃ u g',e = .returned u ∧ zf g' w' σ' v u ∧ Rel g' w' σ' ∧ Ext g w σ g' w' σ':=by
 unfold zog at h
 split at h
 ·rename_i xs
  split at h
  ·rename_i hok
   injection h with h
   simp only [Prod.mk.injEq] at h
   obtain ⟨rfl,rfl⟩:=h
   unfold znE at hc
   split at hc
   ·rename_i i0 r0 i1 o1 o2 t4 ga gb c0 c1 c0' c2 hb hb1 hb2
    simp only [ya,beq_iff_eq,bne_iff_ne,ne_eq,yl,decide_eq_true_eq] at hc
    obtain ⟨⟨⟨⟨⟨⟨⟨⟨⟨⟨⟨⟨⟨⟨⟨⟨h1,h1'⟩,h2⟩,h3⟩,h4⟩,h5⟩,h6⟩,h7⟩,h8⟩,h9⟩,h10⟩,h11⟩,h12⟩,h13⟩,h14⟩,h15⟩,h16⟩:=hc
    split at h4
    ·rename_i t3 ht3
     simp only [ya,bne_iff_ne,ne_eq,yl,decide_eq_true_eq] at h4
     obtain ⟨⟨⟨h4,hne⟩,hk3⟩,hl3⟩:=h4
     obtain ⟨k1,k2⟩:=zkC h4
     injection hb1 with e1 e2
     injection hb2 with e3 e4
     subst e1 e2 e3 e4
     refine ⟨⟨gf,_,hgf,hname,hb⟩,fun g w us R0 hv => ?_⟩
     obtain ⟨te,hte⟩ : ∃ te,P.underlying (zAs o2).1 = some (.slice te):=by
      unfold zpq at h8
      split at h8
      ·rename_i te hte; exact ⟨te,hte⟩
      ·cases h8
     have T : TwoOk P CD [0,2] gf zgw (zfr sz) zm4 zoF (zoX sz) i0 i1 r0 o1 o2 ga gb t3 t4 (zAs o2).1 (zAs o2).2 te :=
      ⟨hb,rfl,rfl,h1,h2,h3,k1,k2,hne,⟨hk3,hl3⟩,⟨h5,h6⟩,h7,hte,h9,h10,⟨rfl,rfl,rfl⟩,h11,h12,h13,h14,h15,h16⟩
     refine zAf (n0:=1) (n2:=2) (e2:=.ret) (s0:=⟨[vsl xs,vsl []],[],0,0⟩) (s2:=⟨[vun,.one (.ap 0 0 xs)],[.tok sz [xs.length]],0,0⟩) hD hgf T ?_ rfl ?_ ?_ (fun hxs => ⟨2,⟨[vun,vsl []],[],0,0⟩,?_,?_⟩) rfl R0 hv
     ·simp [zN,zm4,steps,step,za5,R.get,R.put,zza,enter,zfr,vsl,vun]
     ·simp [zN,zoX,steps,step,za5,R.get,R.put,zza,vsl,vun,znS,zv3,zaq,zyY,R.alloc,elems,hok.1,zCM,zor,Ob.front,Ob.setFront,R.setOb,hok.2,zsm,clr,St.mkSt]
     ·simp [leave,zfr,outs,zsC,zz5,zCx,zfO,vsl,zlD,zlW,V.lts,V.lt,C.lt,Obs.lt,zCs,vun]
     ·simp [zN,zoF,steps,step,za5,R.get,R.put,zza,vsl,vun,zsm,clr,St.mkSt]
     ·subst hxs
      simp [leave,zgw,outs,zsC,zz5,zCx,zfO,vsl,zlD,zlW,V.lts,V.lt,C.lt,Obs.lt,zCs,vun]
    ·cases h4
   ·cases hc
  ·cases h
 ·cases h
end
end Go.A
namespace Go.A.Z
open Go.A.Lex
def m : Nat → Nat → List Bool
 | 0,_ => []
 | n + 1,w => (w % 2 == 1) :: m n (w / 2)
abbrev a (a' b':Oper)(c':List Oper):List Oper:=a'::b'::c'
abbrev b (a':List Oper)(b':Code):Go.A.Code:=.seq (.reg a') b'
abbrev c:X:=.l 0
abbrev d (a':Nat):Op:=.mv (.s a')
abbrev g (a':Op)(b':Oper)(c':List Oper):List Oper:=a (q a') b' c'
abbrev h (a':Nat)(b':X):Oper:=w a' (.mv b')
abbrev j (a':X)(b':Bool):Option (X × Bool):=some (a',b')
abbrev k (a':IntKind)(b':Int):Fz:=.lit (.int a' b')
abbrev l (a':X):Op:=.ld none a'
abbrev n (a':Op)(b':Option (X × Bool)):Oper:=⟨.loc,a',b'⟩
abbrev o (a':Nat)(b' c':Code):Go.A.Code:=.cond (.s a') b' c'
abbrev p (a' b':Op)(c':List Oper):List Oper:=g a' (q b') c'
abbrev r (a':Oper)(b':List Oper)(c':Code):Go.A.Code:=b (a'::b') c'
abbrev s (a':Nat)(b':Bool):Option (X × Bool):=j (.l a') b'
abbrev u (a':BinOp)(b':X)(c':Int):Op:=.bin a' b' (i c')
abbrev v (a' b':Nat):Op:=.fa a' (.s b')
abbrev x (a':Mode)(b' c':X)(d':List X):Op:=.call a' b' (c'::d')
abbrev y (a':C):X:=.c (.one a')
abbrev z (a':Op)(b':Nat)(c':Bool):Oper:=n a' (s b' c')
abbrev A (a':IntKind)(b':Int):C:=.f (k a' b')
abbrev E (a':Op)(b':Nat):Oper:=z a' b' false
abbrev H (a':Int):C:=A .i64 a'
abbrev I (a':Nat)(b' c':X):Op:=.pick (.l a') b' c'
abbrev J (a' b' c':Code):Go.A.Code:=.seq a' (.seq b' c')
abbrev K (a' b' c' d':Op)(e':List Oper):List Oper:=p a' b' (p c' d' e')
abbrev L (a':Op)(b':Nat)(c':X)(d':List Oper):List Oper:=g a' (h b' c') d'
abbrev M:X:=bo false
abbrev O (a':Oper)(b':List Oper)(c':List Bool):Go.A.Code:=r a' b' (.ret c')
abbrev S (a':BinOp)(b':Nat)(c':X):Op:=.bin a' (.l b') c'
abbrev U (a':Nat)(b' c':List C):X:=y (.fn a' b' c')
abbrev W (a' b':Nat)(c':X):Op:=.ia a' (.l b') c'
abbrev Y (a':List (List Fz)):C:=.f (.sl a')
abbrev Z (a' b':C)(c':List C):List C:=a'::b'::c'
abbrev aa (a':Nat)(b':X):Op:=.ld (some a') b'
abbrev ab (a':Op)(b':Nat):Oper:=z a' b' true
abbrev ac (a':Op)(b':Nat)(c':X):List Oper:=L a' b' c' []
abbrev ad (a':Op)(b':Nat):List Oper:=ac a' b' c
abbrev ae (a':Code)(b':Nat)(c' d':Code):Go.A.Code:=J a' (.block b' c') d'
abbrev af (a':BinOp)(b':X)(c':Int)(d':Nat):List Oper:=ad (u a' b' c') d'
abbrev ag (a':Nat)(b':Code):Go.A.Code:=o a' .skip b'
abbrev ah (a' b':Nat)(c':List Bool)(d':Nat):Go.A.Code:=ag a' (.exit b' c' d')
abbrev ai (a':Nat)(b':Code):Go.A.Code:=o a' b' .skip
abbrev aj (a':Nat):Oper:=q (d a')
abbrev ak (a':Oper)(b':List Oper)(c':Nat)(d':Code):Go.A.Code:=r a' b' (.block c' d')
abbrev al (a':Code)(b':Nat)(c':Code)(d':List Oper):Go.A.Code:=ae a' b' c' (.reg d')
abbrev am (a' b' c' d':Oper)(e':List Oper):List Oper:=a a' b' (a c' d' e')
abbrev an (a':Nat)(b':Int):Oper:=h a' (i b')
abbrev ao (a':BinOp)(b':Nat)(c':Int)(d':Nat):List Oper:=af a' (.s b') c' d'
abbrev ap (a':Mode)(b':Nat)(c' d':List C)(e':X)(f':List X):Op:=x a' (U b' c' d') e' f'
abbrev aq (a':Nat)(b' c':List C)(d':X)(e':List X):Op:=ap .cl a' b' c' d' e'
abbrev ar:X:=bo true
abbrev au:Op:=.mv c
abbrev av (a':Op)(b':Nat)(c':Op)(d':List Oper):List Oper:=g a' (w b' c') d'
abbrev aw:Op:=.len c
abbrev ax (a':X):Op:=.un .not a'
abbrev ay (a':Op)(b':X)(c':Bool):Oper:=n a' (j b' c')
abbrev az (a':Op)(b':X):Oper:=ay a' b' false
abbrev aA (a':Nat)(b':List C)(c':X)(d':List X):Op:=aq a' [] b' c' d'
abbrev aB (a':Nat)(b':X)(c':List X):Op:=aA a' [] b' c'
abbrev aC:Op:=l c
abbrev aD (a':Int)(b':C)(c':List C):List C:=Z (H a') b' c'
abbrev aE (a' b':Int)(c':List C):List C:=aD a' (H b') c'
abbrev aF (a':Nat)(b' c':X):Oper:=e (.st a' b' c')
abbrev aG (a':Nat)(b':List Oper)(c':Code):Go.A.Code:=r (aj a') b' c'
abbrev aH (a':List Oper)(b':List Bool):Go.A.Code:=b a' (.ret b')
abbrev aI (a':Op)(b':Nat)(c':Op):List Oper:=av a' b' c' []
abbrev aJ:X:=.l 1
abbrev aK (a' b':Oper):List Oper:=a a' b' []
abbrev aL (a':Nat)(b':Op)(c':Oper):List Oper:=aK (w a' b') c'
abbrev aM (a' b':Nat):Op:=aa a' (.s b')
abbrev aN (a' b':Nat):Op:=.box a' (.s b')
abbrev aO (a':Nat)(b':Int)(c':Nat):List Oper:=ao .eql a' b' c'
abbrev aP (a':Nat)(b':Op)(c':List Oper):List Oper:=p (d a') b' c'
abbrev aQ (a':Nat)(b':Oper)(c':List Oper)(d':List Bool):Go.A.Code:=ai a' (O b' c' d')
abbrev aR (a':B)(b':Nat)(c':List C)(d':List (List C))(e':List (Nat × X)):Op:=.bsl a' b' (c'::d') e'
abbrev aS (a':Op)(b':X):Oper:=ay a' b' true
abbrev aT:C:=Y []
abbrev aU (a' b':Oper)(c':Op)(d':Nat)(e':Oper)(f':List Oper):List Oper:=am a' b' (E c' d') e' f'
abbrev aV (a' b':Nat)(c':X):Oper:=aF a' (.s b') c'
abbrev aW (a':Nat)(b':X):Op:=aB a' b' []
abbrev aX (a':Oper)(b':List Oper)(c' d':Code):Go.A.Code:=r a' b' (.seq c' d')
abbrev aY (a':Nat):Oper:=an a' 0
abbrev aZ (a':Nat)(b' c':X)(d':List X):Op:=aB a' b' (c'::d')
abbrev a0 (a':Oper)(b':Op)(c':Nat)(d':Op)(e':Nat)(f':Oper)(g':List Oper):List Oper:=aU a' (E b' c') d' e' f' g'
abbrev a1 (a' b':X):Op:=.bin .lss a' b'
abbrev a2 (a':Nat)(b':Op)(c':Nat):List Oper:=aL a' b' (aY c')
abbrev a3 (a':X)(b':Int)(c':Nat):List Oper:=af .add a' b' c'
abbrev a4 (a':Op)(b':Nat)(c':BinOp)(d':Nat)(e':X):List Oper:=aI a' b' (S c' d' e')
abbrev a5 (a':Nat):Op:=.fa a' c
abbrev a6 (a':Int)(b':List C):List C:=aE 0 a' b'
abbrev a7 (a':List C):List C:=a6 0 a'
abbrev a8 (a':List C)(b':Nat × Nat × X)(c':List (Nat × Nat × X))(d':List (Nat × Nat)):Op:=.bld a' (b'::c') d'
abbrev a9 (a':B)(b':Nat)(c':List C)(d':List (List C))(e':Nat × X)(f':List (Nat × X)):Op:=aR a' b' c' d' (e'::f')
abbrev ba (a':Code)(b':Nat)(c':Code)(d':Oper)(e':List Oper):Go.A.Code:=al a' b' c' (d'::e')
abbrev bb (a':Code)(b':Nat)(c':Code)(d':Nat)(e':List Oper):Go.A.Code:=ba a' b' c' (aj d') e'
abbrev bc (a':Nat)(b':List Oper)(c':Nat)(d':Code):Go.A.Code:=ak (aY a') b' c' d'
abbrev bd (a':Nat)(b' c' d':Op)(e':List Oper):List Oper:=K (d a') b' c' d' e'
abbrev be (a':Op)(b' c':Nat)(d':X):List Oper:=a4 a' b' .lss c' d'
abbrev bf (a':Code)(b':Nat)(c':Code)(d':Nat)(e':X)(f':Int)(g':Nat):Go.A.Code:=bb a' b' c' d' (a3 e' f' g')
abbrev bg (a':Nat)(b':Int)(c':Nat)(d':Code):Go.A.Code:=b (aO a' b' c') d'
abbrev bh (a':Nat):Op:=.len (.s a')
abbrev bi (a':Nat)(b':Oper)(c':List Bool):Go.A.Code:=aQ a' b' [] c'
abbrev bj:List C:=a7 []
abbrev bk (a' b':Oper)(c':Op)(d':Nat)(e':Oper)(f':List Oper):List Oper:=am a' b' (ab c' d') e' f'
abbrev bl (a':Nat)(b':Op)(c':List Oper)(d':Code):Go.A.Code:=b (aP a' b' c') d'
abbrev bm (a':Oper)(b':List Oper):Go.A.Code:=.reg (a'::b')
abbrev bn (a':List C):Op:=.al a' []
abbrev bp (a':Oper)(b':Op)(c':Nat)(d':Op)(e':Nat)(f':Oper)(g':List Oper):List Oper:=bk a' (ab b' c') d' e' f' g'
abbrev bq (a' b':Nat)(c':X)(d':List Bool):Go.A.Code:=bi a' (h b' c') d'
abbrev br (a':Nat)(b':Int)(c' d':Nat)(e':Code):Go.A.Code:=bg a' b' c' (ag d' e')
abbrev bs (a':Nat)(b':X):Op:=a1 (.s a') b'
abbrev bt (a' b':Nat):Op:=bs a' (.s b')
abbrev bu (a':Nat):Op:=aW a' c
abbrev bv (a' b':Nat)(c':X):Op:=.ia a' (.s b') c'
abbrev bw (a':Nat)(b':Int)(c':Nat):List Oper:=ao .add a' b' c'
abbrev bx (a':X)(b':Int):Op:=u .eql a' b'
abbrev bz (a':B)(b':Nat)(c':List C)(d':List (List C))(e':Nat)(f':X)(g':List (Nat × X)):Op:=a9 a' b' c' d' (e',f') g'
abbrev bA (a':Nat)(b':List Oper)(c' d':Nat)(e':List Bool)(f':Nat):Go.A.Code:=aG a' b' (ah c' d' e' f')
abbrev bB (a':Code)(b':Nat)(c':Code)(d':Nat)(e':Int)(f':Nat):Go.A.Code:=al a' b' c' (bw d' e' f')
abbrev bC (a':Op)(b':Nat)(c':Op)(d':Nat)(e':Op)(f':Nat)(g':Oper)(h':List Oper):List Oper:=a0 (E a' b') c' d' e' f' g' h'
abbrev bD (a':Nat)(b':List C)(c':List (List C))(d':Nat)(e':X)(f':List (Nat × X)):Op:=bz .fz a' b' c' d' e' f'
abbrev bE (a':Op)(b':List Oper)(c':Code):Go.A.Code:=r (q a') b' c'
abbrev bF (a' b':Nat)(c':List Bool)(d' e':Nat)(f':Code)(g':Nat)(h':Int)(i':Nat):Go.A.Code:=bB (ah a' b' c' d') e' f' g' h' i'
abbrev bG (a':List C)(b' c':Nat × Nat × X)(d':List (Nat × Nat × X))(e':List (Nat × Nat)):Op:=a8 a' b' (c'::d') e'
abbrev bH (a':Op):Oper:=az a' c
abbrev bI (a':Int):X:=ik .u64 a'
abbrev bJ (a':Nat)(b':X):Op:=I a' ar b'
abbrev bK (a':Nat):Op:=bJ a' c
abbrev bL (a':Nat):Oper:=bH (d a')
abbrev bM (a':Oper)(b':Code):Go.A.Code:=r a' [] b'
abbrev bN (a':Nat)(b':Op)(c':Code):Go.A.Code:=bM (w a' b') c'
abbrev bO (a' b' c':Nat)(d':Code):Go.A.Code:=bN a' (bt b' c') d'
abbrev bP (a':Nat)(b':C)(c':List C)(d':List (List C))(e':Nat)(f':X)(g':List (Nat × X)):Op:=bD a' (b'::c') d' e' f' g'
abbrev bQ:X:=.l 2
abbrev bR:Op:=ax c
abbrev bS (a' b' c':Nat)(d':Oper):List Oper:=aL a' (aN b' c') d'
abbrev bT (a':Nat)(b':X)(c':Oper):List Oper:=aK (h a' b') c'
abbrev bU (a' b':Nat):Oper:=w a' (bK b')
abbrev bV (a' b' c':Nat):Op:=bv a' b' (.s c')
abbrev bW (a' b' c':Nat):List Oper:=a2 a' (bh b') c'
abbrev bX (a' b':Nat)(c':Op)(d':List Oper):List Oper:=p (v a' b') c' d'
abbrev bY (a':BinOp)(b':X)(c':Int):Op:=.bin a' b' (bI c')
abbrev bZ (a' b':Nat):List Oper:=ad (d a') b'
abbrev b0 (a' b':Nat):Op:=W a' b' c
abbrev b1 (a':Nat):Op:=b0 a' 1
abbrev b2:Op:=b1 1
abbrev b3 (a' b':Nat)(c':List Oper):List Oper:=bX a' b' aC c'
abbrev b4 (a':List Oper)(b' c':Code):Go.A.Code:=b a' (.seq b' c')
abbrev b5 (a' b':Nat):Oper:=bH (v a' b')
abbrev b6 (a' b':Nat)(c':Code):Go.A.Code:=bc a' [] b' c'
abbrev b7 (a' b':Nat)(c':List Bool):Go.A.Code:=aH (bZ a' b') c'
abbrev b8 (a':Op):Oper:=aS a' c
abbrev b9 (a':Nat):Oper:=b8 (d a')
abbrev ca (a' b' c' d' e' f' g' h':Op)(i':List Oper):List Oper:=K a' b' c' d' (K e' f' g' h' i')
abbrev cb (a' b':Nat)(c' d':Op)(e':List Oper):List Oper:=bd a' (d b') c' d' e'
abbrev cc (a':IntKind):Op:=.conv a' c
abbrev cd (a':List C)(b' c':Nat)(d':X)(e':Nat × Nat × X)(f':List (Nat × Nat × X))(g':List (Nat × Nat)):Op:=bG a' (b',c',d') e' f' g'
abbrev ce (a':List Oper)(b':Nat)(c':Code):Go.A.Code:=b a' (.block b' c')
abbrev cf (a':Nat)(b' c':X):Op:=aZ a' b' c' []
abbrev cg (a' b' c' d':Nat)(e':X):List Oper:=bS a' b' c' (h d' e')
abbrev ch (a':List C)(b' c':Nat)(d':X)(e' f':Nat)(g':X)(h':List (Nat × Nat × X))(i':List (Nat × Nat)):Op:=cd a' b' c' d' (e',f',g') h' i'
abbrev ci (a':Nat)(b':List Oper):Go.A.Code:=bm (aj a') b'
abbrev cj (a':List Bool)(b':Code):Go.A.Code:=.loop a' 1 b'
abbrev ck (a':Nat)(b':Int)(c' d' e':Nat)(f':Int)(g' h':Nat)(i':Code):Go.A.Code:=br a' b' c' d' (br e' f' g' h' i')
abbrev cl (a':Oper)(b':List Oper):List Oper:=g au a' b'
abbrev cm (a':Oper)(b':Op)(c':Nat)(d':Op)(e':Nat)(f':Op)(g':Nat)(h':List Oper):List Oper:=bp a' b' c' d' e' (ab f' g') h'
abbrev cn (a':Nat)(b':List C)(c':Oper):List Oper:=aL a' (bn b') c'
abbrev co (a' b':Nat)(c':X):List Oper:=be aw a' b' c'
abbrev cp (a':Nat)(b':X)(c':Code):Go.A.Code:=bM (h a' b') c'
abbrev cq (a':Nat)(b':List C)(c' d':Nat)(e':X):List Oper:=cn a' b' (aV c' d' e')
abbrev cr (a':Nat)(b' c':X)(d':Nat):List Oper:=ad (.app a' b' c') d'
abbrev cs (a':List Oper)(b':Nat)(c':Code):Go.A.Code:=b a' (ai b' c')
abbrev ct (a':Mode)(b':Nat)(c' d':List C)(e' f':X)(g':List X):Op:=ap a' b' c' d' e' (f'::g')
abbrev cu (a' b':Nat)(c':List Oper)(d':Code):Go.A.Code:=bl a' (d b') c' d'
abbrev cv (a':Nat)(b':X)(c':Nat)(d':X):List Oper:=bT a' b' (h c' d')
abbrev cw (a':List Bool)(b':Code):Go.A.Code:=.loop a' 0 b'
abbrev cx (a' b':Nat):Oper:=b8 (v a' b')
abbrev cy (a':C)(b':List C):List C:=Z aT a' b'
abbrev cz (a':C):List C:=cy a' []
abbrev cA (a':X)(b':Int):Op:=u .gtr a' b'
abbrev cB (a':List Bool)(b':Code):Go.A.Code:=.loop a' 2 b'
abbrev cC (a':Nat):Op:=l (.s a')
abbrev cD (a' b':Nat)(c':List Oper)(d':Code):Go.A.Code:=bE (v a' b') c' d'
abbrev cE (a':Oper)(b':Op)(c':Nat)(d':List Oper):List Oper:=a a' (E b' c') d'
abbrev cF (a':Nat)(b':Int)(c':List C)(d':List (List C))(e':Nat)(f':X)(g':List (Nat × X)):Op:=bP a' (H b') c' d' e' f' g'
abbrev cG (a' b':Nat)(c':Int)(d':List Bool):Go.A.Code:=bi a' (an b' c') d'
abbrev cH (a':Int):Op:=bx c a'
abbrev cI (a':Nat):Op:=.ext aJ a'
abbrev cJ (a':Value):C:=.f (.lit a')
abbrev cK (a':X)(b':Int):Op:=u .lss a' b'
abbrev cL (a':C):List C:=a7 (cz a')
abbrev cM (a':Op)(b':Nat)(c':Op)(d' e' f':Nat):List Oper:=av a' b' c' (bW d' e' f')
abbrev cN (a':List C)(b' c':Nat)(d':X)(e' f':Nat)(g':X)(h':List (Nat × Nat × X)):Op:=ch a' b' c' d' e' f' g' h' []
abbrev cO (a' b' c':Nat)(d':List Oper)(e' f':Nat)(g':List Bool)(h':Nat):Go.A.Code:=bA a' (b3 b' c' d') e' f' g' h'
abbrev cP (a':Op)(b':Nat)(c':Op)(d':Nat)(e':Op)(f' g' h':Nat)(i':List Oper):List Oper:=bC a' b' c' d' e' f' (bU g' h') i'
abbrev cQ (a':Oper)(b' c':Code):Go.A.Code:=aX a' [] b' c'
abbrev cR (a':Op)(b':List Oper):List Oper:=p a' au b'
abbrev cS (a':Nat)(b':List Oper):List Oper:=cR (bK a') b'
abbrev cT (a':Oper)(b':Op)(c':Nat)(d':List Oper):List Oper:=a a' (ab b' c') d'
abbrev cU (a':Nat)(b':List Oper)(c':List Bool):Go.A.Code:=O (aj a') b' c'
abbrev cV (a':Code)(b':Nat)(c':Code)(d':Nat)(e':Int)(f':Nat):Go.A.Code:=bf a' b' c' d' c e' f'
abbrev cW (a':Code)(b':Nat)(c':Code)(d' e':Nat):Go.A.Code:=cV a' b' c' d' 1 e'
abbrev cX (a' b' c' d':Nat)(e':X)(f':Code):Go.A.Code:=b (cg a' b' c' d' e') f'
abbrev cY (a' b':Nat)(c':List Oper)(d':Code):Go.A.Code:=bE (aM a' b') c' d'
abbrev cZ (a' b':Nat)(c':X)(d':Oper):List Oper:=aK (aV a' b' c') d'
abbrev c0 (a':Nat)(b':Int)(c':Nat):Go.A.Code:=.reg (aO a' b' c')
abbrev c1 (a':List Oper)(b' c':Nat)(d':X)(e':List Bool):Go.A.Code:=b a' (bq b' c' d' e')
abbrev c2 (a':Op)(b':Nat)(c' d':X)(e':List Oper):List Oper:=g a' (aF b' c' d') e'
abbrev c3 (a' b':Nat)(c':List Oper):List Oper:=cl (b5 a' b') c'
abbrev c4 (a':Nat)(b' c':X)(d':Nat):List Oper:=ad (I a' b' c') d'
abbrev c5 (a':Code)(b':Nat)(c':Code):Go.A.Code:=.seq a' (.block b' c')
abbrev c6 (a':Nat)(b':Op)(c':Nat)(d':List Oper):List Oper:=cE (bL a') b' c' d'
abbrev c7 (a' b':Nat):List Oper:=co a' b' c
abbrev c8 (a' b' c' d' e' f' g':Nat)(h':List Bool)(i':Nat):Go.A.Code:=cO a' b' c' (c7 d' e') f' g' h' i'
abbrev c9 (a':Op)(b':Nat):List Oper:=aI a' b' bR
abbrev da (a':Nat)(b' c':List C)(d' e':X)(f':List X):Op:=ct .op a' b' c' d' e' f'
abbrev db (a':Nat):Op:=.ext c a'
abbrev dc (a':Nat):Op:=aa a' c
abbrev dd (a':Nat)(b':List Oper):List Oper:=cl (bL a') b'
abbrev de (a':Nat)(b':X):Op:=cf a' b' c
abbrev df (a':Nat):List Oper:=ad aC a'
abbrev dg:List C:=a7 bj
abbrev dh (a' b':Nat)(c':Op):List Oper:=aI (d a') b' c'
abbrev di (a':Oper)(b':List Bool):Go.A.Code:=O a' [] b'
abbrev dj (a' b':Nat)(c':Op)(d':List Oper)(e':Code):Go.A.Code:=aG a' (aP b' c' d') e'
abbrev dk (a':BinOp)(b':Nat):Op:=S a' b' c
abbrev dl (a':BinOp)(b' c':Nat):List Oper:=ad (dk a' b') c'
abbrev dm (a':Nat):Op:=v a' 1
abbrev dn (a':List C)(b' c':Nat)(d':X)(e' f':Nat)(g':Int)(h':List (Nat × Nat × X)):Op:=cN a' b' c' d' e' f' (i g') h'
abbrev dp:Op:=cc .u64
abbrev dq:Op:=a5 0
abbrev dr (a':Op)(b':Nat)(c' d':Op)(e':List Oper):List Oper:=K a' (d b') c' d' e'
abbrev ds (a':Nat)(b':Int)(c':List Bool):Go.A.Code:=di (an a' b') c'
abbrev dt:Op:=.nil c
abbrev du (a' b' c' d':Nat)(e':Code):Go.A.Code:=cu a' b' (c7 c' d') e'
abbrev dv (a':C)(b':List C)(c':List (List C)):List (List C):=(a'::b')::c'
abbrev dw (a':Int)(b':List C)(c':List (List C)):List (List C):=dv (H a') b' c'
abbrev dx (a':List Oper):Go.A.Code:=aH a' (m 23 12)
abbrev dy:Op:=b1 5
abbrev dz (a':Nat)(b':List C)(c' d':Nat):List Oper:=cq a' b' c' d' aJ
abbrev dA:X:=.l 3
abbrev dB (a':Nat)(b' c':Op)(d':List Oper):List Oper:=dr aC a' b' c' d'
abbrev dC (a' b':Nat):List Oper:=c9 (bu a') b'
abbrev dD (a':Nat)(b':X)(c':Nat):List Oper:=cv a' b' c' aJ
abbrev dE (a':C):List C:=a7 (cL a')
abbrev dF (a':Nat):Op:=de a' aJ
abbrev dG (a':Nat)(b' c':Code):Go.A.Code:=cQ (aY a') b' c'
abbrev dH (a' b':Nat)(c':Op)(d':Nat)(e':Code):Go.A.Code:=cs (dh a' b' c') d' e'
abbrev dI (a':Nat):Op:=aM 2 a'
abbrev dJ (a':Nat):Oper:=ab aC a'
abbrev dK:Op:=dm 2
abbrev dL (a' b':Nat)(c':List Bool)(d' e':Nat)(f':Code)(g' h':Nat):Go.A.Code:=bF a' b' c' d' e' f' g' 1 h'
abbrev dM (a':List Bool)(b':Code):Go.A.Code:=.loop a' 1000000 b'
abbrev dN (a':List Oper):Go.A.Code:=aH a' (m 7 12)
abbrev dO (a':Nat):Oper:=q (bK a')
abbrev dP (a':List Bool)(b':Code):Go.A.Code:=.loop a' 3 b'
abbrev dQ (a' b' c' d' e' f':Nat)(g':List Bool)(h':Nat):Go.A.Code:=du a' b' c' d' (ah e' f' g' h')
abbrev dR (a':Int)(b':List C):List C:=aD a' aT b'
abbrev dS (a':Int):List C:=dR a' []
abbrev dT (a':Nat)(b':C)(c':List C)(d' e':Nat):List Oper:=dz a' (b'::c') d' e'
abbrev dU (a':Op)(b':Nat)(c' d':X):List Oper:=c2 a' b' c' d' []
abbrev dV (a':Nat)(b':List C)(c' d':X)(e':List X):Op:=da a' [] b' c' d' e'
abbrev dW (a':Nat)(b' c':X)(d':List X):Op:=dV a' [] b' c' d'
abbrev dX (a':Nat):Op:=dk .lss a'
abbrev dY:List C:=cz aT
abbrev dZ (a':C)(b':Int):List C:=cy a' (dS b')
abbrev d0:X:=y aT
abbrev d1 (a' b' c':Nat)(d':Op)(e':List Oper):List Oper:=cb a' b' (d c') d' e'
abbrev d2 (a':Op)(b':Nat)(c':List C)(d':List Oper):List Oper:=av a' b' (bn c') d'
abbrev d3 (a':Nat)(b':Op)(c':List Oper)(d':Nat)(e':Code):Go.A.Code:=ak (w a' b') c' d' e'
abbrev d4 (a' b':Nat)(c':Op)(d':List Oper):Go.A.Code:=ci a' (aP b' c' d')
abbrev d5 (a':X)(b':Int):Op:=u .leq a' b'
abbrev d6:Value:=.bool false
abbrev d7 (a' b':Nat)(c':Int):Go.A.Code:=cG a' b' c' (m 27 8)
abbrev d8 (a':Nat)(b':Int)(c' d':Nat)(e' f':Code):Go.A.Code:=.seq (br a' b' c' d' e') f'
abbrev d9 (a':Nat)(b':X)(c':List Bool):Go.A.Code:=di (h a' b') c'
abbrev ea (a' b':Nat)(c':List Oper):List Oper:=cl (cx a' b') c'
abbrev eb (a':Int):Op:=cA c a'
abbrev ec (a':Nat)(b':Int)(c':List (List C))(d':Nat)(e':X)(f':List (Nat × X)):Op:=cF a' b' [] c' d' e' f'
abbrev ed (a':Int)(b':List (List C)):List (List C):=dw a' [] b'
abbrev ee (a':Nat)(b':List Oper):List Oper:=cl (b9 a') b'
abbrev ef (a':Nat)(b' c':X):Op:=dW a' b' c' []
abbrev eg (a':Int):C:=A .u64 a'
abbrev eh (a':Int):List C:=dE (eg a')
abbrev ei (a':Nat)(b':Code):Go.A.Code:=cp a' M b'
abbrev ej (a':Op)(b':Nat)(c':Op)(d' e' f' g':Nat)(h':Code):Go.A.Code:=ce (cM a' b' c' d' e' f') g' h'
abbrev ek (a':Nat):Op:=dk .geq a'
abbrev el (a':Int):Op:=cK c a'
abbrev em (a':Nat)(b' c' d':X)(e':List X):Op:=aZ a' b' c' (d'::e')
abbrev en (a' b':Nat)(c':List Oper)(d':Nat)(e':Code):Go.A.Code:=d3 a' (d b') c' d' e'
abbrev eo (a':Nat):Op:=.nl .tk a'
abbrev ep (a':Nat):Op:=dk .neq a'
abbrev eq (a':Nat)(b':List X)(c':X)(d':List X):Op:=.mkf a' b' (c'::d')
abbrev er (a':Op)(b':Nat)(c':Op)(d':Nat)(e':Op)(f' g' h':Nat):List Oper:=cP a' b' c' d' e' f' g' h' []
abbrev es:Op:=cc .i64
abbrev et (a':Nat)(b':Op)(c':Nat)(d':List Oper):List Oper:=cT (b9 a') b' c' d'
abbrev eu (a' b':Nat)(c':List Oper)(d':List Bool):Go.A.Code:=ei a' (cU b' c' d')
abbrev ev (a':Nat)(b':Op)(c':List Oper)(d':List Bool):Go.A.Code:=aH (aP a' b' c') d'
abbrev ew:C:=cJ .nilFunc
abbrev ex (a':Nat)(b':List Oper)(c' d':Nat)(e':X)(f':List Bool):Go.A.Code:=aG a' b' (bq c' d' e' f')
abbrev ey (a' b':Int):List C:=dZ (H a') b'
abbrev ez (a':Nat)(b':Code)(c':Nat)(d':Int)(e':Nat)(f':Code):Go.A.Code:=o a' b' (bg c' d' e' f')
abbrev eA (a':Op)(b' c':Nat)(d':X):List Oper:=a4 a' b' .neq c' d'
abbrev eB (a':Op)(b':Nat)(c':Code):Go.A.Code:=bE a' (df b') c'
abbrev eC (a' b':Op)(c':Nat)(d' e' f' g' h':Op)(i':List Oper):List Oper:=ca a' b' (d c') d' e' f' g' h' i'
abbrev eD (a' b':Nat)(c':Op)(d':Nat)(e':Op)(f':Nat)(g':Oper)(h':List Oper):List Oper:=a0 (b5 a' b') c' d' e' f' g' h'
abbrev eE (a' b' c':Op)(d':List Oper):List Oper:=K a' aC b' c' d'
abbrev eF:Op:=a5 1
abbrev eG (a' b' c':Op)(d':Nat):List Oper:=p a' b' (ad c' d')
abbrev eH (a':Nat)(b':X):Op:=I a' c b'
abbrev eI (a':Nat):Op:=eH a' M
abbrev eJ (a':Nat):Oper:=q (eI a')
abbrev eK (a':Nat)(b':List Oper):List Oper:=cR (eI a') b'
abbrev eL (a':Op)(b':List Oper)(c' d':Code):Go.A.Code:=aX (q a') b' c' d'
abbrev eM (a':X)(b':Int):Op:=u .geq a' b'
abbrev eN (a':Op)(b':List Oper)(c':List Bool):Go.A.Code:=O (q a') b' c'
abbrev eO (a':List C)(b':List (Nat × Nat × X))(c':List (Nat × Nat)):Oper:=q (.bld a' b' c')
abbrev eP:Op:=cI 1
abbrev eQ:Op:=db 0
abbrev eR (a' b':Nat):Oper:=w a' (eI b')
abbrev eS (a':Nat)(b':Op)(c':Nat)(d':Code):Go.A.Code:=aG a' (ad b' c') d'
abbrev eT (a':Nat)(b':List Oper)(c':Nat)(d':Code):Go.A.Code:=ak (aj a') b' c' d'
abbrev eU (a':BinOp)(b':Int):Op:=bY a' c b'
abbrev eV:Op:=bu 260
abbrev eW (a' b':Nat):List Oper:=dl .add a' b'
abbrev eX (a':C)(b':List C)(c':Option (Nat × Nat))(d':X):Op:=.mks (a'::b') c' d'
abbrev eY (a' b' c':Nat)(d':Op)(e':List Oper):List Oper:=p (bV a' b' c') d' e'
abbrev eZ (a':Code):Go.A.Code:=.block 0 a'
abbrev e0 (a':Nat)(b':Code):Go.A.Code:=b6 a' 0 b'
abbrev e1 (a':X)(b':Int):Op:=u .neq a' b'
abbrev e2 (a':Nat)(b':X)(c':Nat):List Oper:=c4 a' c b' c'
abbrev e3 (a' b':Nat):List Oper:=e2 a' M b'
abbrev e4 (a' b':Nat × X)(c':List (Nat × X)):List (Nat × X):=a'::b'::c'
abbrev e5 (a' b' c' d':Nat)(e':Code):Go.A.Code:=eB (bV a' b' c') d' e'
abbrev e6 (a':Op)(b' c':X):List Oper:=dU a' 1 b' c'
abbrev e7 (a':Op)(b':X):List Oper:=e6 a' c b'
abbrev e8 (a':Int):Op:=eU .eql a'
attribute [go_sem] m Nat.reduceMod Nat.reduceDiv Nat.reduceBEq a b c d g h j k l n o p r s u v x y z A E H I J K L M O S U W Y Z aa ab ac ad ae af ag ah ai aj ak al am an ao ap aq ar au av aw ax ay az aA aB aC aD aE aF aG aH aI aJ aK aL aM aN aO aP aQ aR aS aT aU aV aW aX aY aZ a0 a1 a2 a3 a4 a5 a6 a7 a8 a9 ba bb bc bd be bf bg bh bi bj bk bl bm bn bp bq br bs bt bu bv bw bx bz bA bB bC bD bE bF bG bH bI bJ bK bL bM bN bO bP bQ bR bS bT bU bV bW bX bY bZ b0 b1 b2 b3 b4 b5 b6 b7 b8 b9 ca cb cc cd ce cf cg ch ci cj ck cl cm cn co cp cq cr cs ct cu cv cw cx cy cz cA cB cC cD cE cF cG cH cI cJ cK cL cM cN cO cP cQ cR cS cT cU cV cW cX cY cZ c0 c1 c2 c3 c4 c5 c6 c7 c8 c9 da db dc dd de df dg dh di dj dk dl dm dn dp dq dr ds dt du dv dw dx dy dz dA dB dC dD dE dF dG dH dI dJ dK dL dM dN dO dP dQ dR dS dT dU dV dW dX dY dZ d0 d1 d2 d3 d4 d5 d6 d7 d8 d9 ea eb ec ed ee ef eg eh ei ej ek el em en eo ep eq er es et eu ev ew ex ey ez eA eB eC eD eE eF eG eH eI eJ eK eL eM eN eO eP eQ eR eS eT eU eV eW eX eY eZ e0 e1 e2 e3 e4 e5 e6 e7 e8
end Go.A.Z
namespace AC
open Go.A Go.A.Lex Go.A.Z
abbrev Cd:=Go.A.Code
theorem xl {T : Nat → Option Entry} {s : St} (L : Go.A.Code) {m : List Bool} {n : Nat} {B : Go.A.Code} (h : L = .loop m n B) : exec T L s = (exec T B s).bind (zpN (exec T L) m n):=by subst h; exact zyp T s _ _ _
def zbo:Cd:=cW (dQ 9 7 14 2 14 2 (m 17 372) 1) 3 (.seq (ex 7 (bd 9 b2 aC (el 0) (dd 7 (cE (E (d 9) 1) b2 2 (bC aC 3 (d 6) 4 (ek 1) 5 (dO 6) (dd 5 (bC (d 7) 1 (d 9) 2 b2 3 (E aC 4) (bC (b0 1 4) 5 aC 6 (d 5) 7 (E (d 6) 8) (er b2 9 aC 10 (ek 4) 11 15 12)))))))) 15 3 M (m 17 8)) (.reg (d1 8 5 7 (d 9) (eE b2 (b0 1 4) aC (ad (.mxn true (.l 7) c) 8))))) 9 9
def zau:Cd:=cj (m 17 1012) zbo
def zbq:Cd:=cW (dQ 6 5 13 2 13 0 (m 17 0) 1) 1 (cY 3 2 (aP 4 (d 6) (ad (em 23 bQ aJ c []) 7)) (cQ (an 8 (-1)) (b6 9 2 zau) (ex 5 (bd 6 b2 aC (d 8) (eA (u .add c 1) 16 2 c)) 16 3 M (m 17 8)))) 6 6
def zaw:Cd:=cj (m 17 116) zbq
def zac:Fun:=⟨2,17,0,false,[(3,none)],cX 2 3 0 3 M (J (c1 (c9 (.call .cl (U 15 [] []) []) 10) 10 3 M (m 17 8)) (c1 (K (aM 3 2) (bu 16) bR au (a0 (bH (aM 3 2)) (cf 30 c (i 2)) 1 (e1 c 0) 2 (bU 11 3) [])) 11 3 ar (m 17 8)) (aG 1 (K es (v 2 2) aC aw (dl .rem 3 4)) (b (eG (aM 3 2) (d 4) (dF 27) 5) (J (c1 (bd 5 aw (v 2 2) aC (bd 4 dy eF aC (eA aw 12 7 c))) 12 3 M (m 17 8)) (e0 6 zaw) (d9 3 ar (m 17 8))))))⟩
def zjk:Fun:=⟨0,5,0,false,[(0,none)],ei 0 (bE (dn (eh 0) 0 1 (i 0) 1 1 8 [(2,1,i 1),(3,1,i 1),(5,1,bI 7)]) (ca (dn (eh 0) 0 1 (i 0) 1 1 8 [(2,1,i 1),(3,1,i 2),(5,1,bI 8)]) (ec 1 0 (ed 0 []) 0 (i 1) [(1,i 2)]) (dn (eh 0) 0 1 (i 1) 1 1 8 [(2,1,i 1),(3,1,i 3),(4,1,c)]) (bD 6 (eh 0) [eh 0,eh 0] 0 dA (e4 (1,bQ) (2,c) [])) (dn (H 0::dS 0) 0 1 (i 0) 1 1 3 []) (cN (aT::ey 0 0) 1 1 aJ 2 3 c []) (bP 5 aT (ey 0 0) [] 0 c []) (cN (aT::dS 0) 1 1 (i 8) 2 1 c []) (dT 1 aT (dS 0) 3 1)) (cY 3 1 (K (ec 1 0 (ed 0 (ed 0 [])) 0 (i 1) (e4 (1,i 0) (2,i 2) [])) (em 17 aJ (i 0) c []) au eQ (d2 eP 2 (aT::dS 0) (cZ 3 2 bQ (h 3 bQ)))) (cY 3 1 (p (ec 1 0 (ed 0 (ed 0 [])) 0 (i 2) (e4 (1,i 0) (2,i 1) [])) (em 17 aJ (i 0) c []) (K au eQ eP (bn (aT::dS 0)) (aK (aF 3 c bQ) (h 4 bQ)))) (cU 3 (cR (cH 0) (cm (cx 2 2) aC 1 aw 2 (cH 1) 3 (eK 4 (cm (cx 2 2) aC 1 (.ia 5 c (i 0)) 2 eF 3 (bp (dJ 4) aw 5 (cH 3) 6 (eJ 7) (ea 2 2 (cm (dJ 1) (.ia 5 c (i 0)) 2 eF 3 aC 4 (cm (ab (.ia 6 c (i 0)) 5) (a5 3) 6 aC 7 (cH 2) 8 (eK 9 (et 4 (cH 10) 1 (eK 2 (cm (b8 (aM 3 1)) (em 23 c (i 0) (i 2) []) 1 (ec 1 0 (ed 0 []) 0 (i 0) [(1,i 1)]) 2 (dF 22) 3 (eK 4 (cm (b8 (aM 3 1)) (cf 25 c (i 0)) 1 (ec 1 0 (ed 0 (ed 0 [])) 0 (i 0) (e4 (1,i 1) (2,i 2) [])) 2 (dF 22) 3 (eK 4 (cm (b8 (aM 3 1)) (cf 27 c (i 0)) 1 (ec 1 0 (ed 0 (ed 0 [])) 0 (i 0) (e4 (1,i 0) (2,i 1) [])) 2 (dF 22) 3 (e3 4 0))))))))))))))))) (m 5 1)))))⟩
def zdz:Cd:=cW (c8 4 2 1 5 3 5 0 (m 6 10) 1) 1 (ci 3 (ca (u .add c 1) dK aC (d 4) dy eF aC aw (ca (dk .add 7) dK aC (d 4) dy dq aC aw (eW 7 3)))) 4 4
def zbH:Cd:=cj (m 6 26) zdz
def zD:Fun:=⟨1,6,0,false,[(2,none)],cX 1 3 0 2 M (dG 3 (e0 4 zbH) (eN (aM 3 1) (cR (bu 61) (cT (cx 2 1) aC 1 (bp (ab aw 2) (d5 c 16) 3 au 4 (b9 3) (bp (ab (d5 c 100) 1) (eI 2) 7 au 8 (b5 2 1) (bC aC 1 aw 2 (eb 64) 3 (ab (bK 4) 13) (aU (ab au 14) (bL 3) (eb 512) 1 (ab (bK 2) 17) (e3 18 2))))))) (m 6 4)))⟩
def zsL:Cd:=bO 13 12 11 (dL 13 0 (m 14 90) 3 1 (e5 1 10 12 7 (ci 6 (b3 2 3 (bd 1 dy eF aC (bd 7 (b1 6) (dc 6) (bD 6 (eh 0) [] 0 c []) (cr 6 (.l 10) c 6)))))) 12 12)
def zs0:Cd:=dP (m 14 7258) zsL
def zuU:Fun:=⟨3,14,0,false,[(4,some (some 3)),(5,none)],aX (w 3 (aN 3 0)) (a2 4 (bn (aT::dS 0)) 5) (cY 3 3 (aP 1 (d 2) (c9 (em 20 bQ aJ c []) 9)) (aQ 9 (eO (aT::dS 0) [] []) (cZ 3 4 c (an 5 10)) (m 14 48))) (cQ (w 6 (eo 6)) (en 10 2 (bW 11 10 12) 0 zs0) (cY 3 3 (dT 8 aT (dS 0) 3 8) (cD 2 3 (p aC (ap .op 62 [] [] c []) (e7 (v 2 8) aJ)) (cD 2 8 (dB 1 (d 6) (W 5 2 aJ) (e7 eF bQ)) (eN (aM 3 8) (cZ 3 4 c (aY 5)) (m 14 48))))))⟩
def zrr:Fun:=⟨3,5,0,false,[(4,none)],cX 3 3 0 4 M (eN (aM 3 3) (aP 1 (dF 64) (ea 2 3 (cT (dJ 1) (d 1) 2 (cm (ab dy 3) (dc 5) 4 (d 2) 5 (dF 65) 6 (e3 7 4))))) (m 5 16))⟩
def zdS:Cd:=cW (dQ 3 0 5 2 5 0 (m 7 0) 0) 1 (dj 0 3 b2 (dB 1 (d 3) b2 (eA aC 6 4 c)) (bq 6 2 M (m 7 4))) 3 3
def zbW:Cd:=cw (m 7 11) zdS
def za4:Fun:=⟨2,7,0,false,[(2,none)],ei 2 (J (ex 0 (p aw (d 1) (eA aw 4 2 c)) 4 2 M (m 7 4)) (e0 3 zbW) (d9 2 ar (m 7 4)))⟩
def zeu:Fun:=⟨3,6,0,false,[(4,none)],b4 (cg 3 3 0 4 d0) (cY 3 3 (bd 1 (dF 64) bR au (c6 2 (el 0) 1 (cS 2 (c6 2 (v 2 3) 1 (bC aC 2 (d 1) 3 dy 4 (E eF 5) (er aC 6 aw 7 (ek 7) 8 5 9)))))) (bq 5 4 d0 (m 6 16))) (aH (eC (v 2 3) aC 1 dy (dc 5) (bu 67) (d 2) b2 (df 4)) (m 6 16))⟩
def zrG:Cd:=bO 19 18 17 (dL 19 2 (m 21 28912) 4 3 (bl 18 (bV 6 16 18) (d2 (dc 6) 10 (eh 0) (bT 9 dA (aV 6 10 bQ))) (aG 6 (bd 9 (.lk (.one (cJ d6)) false aJ c) bR au (cT (cx 0 10) aC 1 (bp (ab (bu 68) 2) (d 8) 3 (.beq false aJ c) 4 (eJ 5) (ee 6 (cT (ab (d 5) 1) (d 9) 2 (bp (ab b2 3) aC 4 (ef 69 (.l 4) c) 5 (eR 20 6) [])))))) (ai 20 (aG 6 (g (d 9) (e (.mu aJ c ar)) []) (dj 7 9 (ec 1 0 [] 0 c []) (cr 1 bQ c 7) (.goto 0 (m 21 240) 4)))))) 18 18)
def zrv:Cd:=.loop (m 21 487920) 4 zrG
def zsl:Cd:=bO 15 14 13 (dL 15 0 (m 21 128) 4 1 (e5 1 12 14 8 (ej (v 1 4) 16 aC 17 16 18 2 zrv)) 14 14)
def zr0:Cd:=.loop (m 21 28912) 4 zsl
def zrN:Cd:=.seq (c1 (p (aM 3 2) (d 1) (c9 (dF 64) 11)) 11 3 d0 (m 21 8)) (cD 2 2 (dB 1 dy (dc 5) (dT 4 aT (ey 0 0) 5 4)) (cY 5 4 (ad (bu 67) 5) (b (ad .mkm 6) (bN 7 (eo 1) (J (.label 0) (d3 12 (bP 1 (cJ d6) [] (dv (cJ d6) [] []) 0 ar [(1,M)]) (bW 13 12 14) 0 zr0) (b7 7 3 (m 21 8)))))))
def zty:Fun:=⟨2,21,0,false,[(3,none)],cX 2 3 0 3 d0 (.scope zrN)⟩
def zhJ:Cd:=bO 16 15 14 (dL 16 2 (m 17 3664) 2 3 (e5 1 13 15 7 (.reg (aP 6 (d 4) (bd 7 b2 aC (u .add c 1) (ad (.mxn true (.l 5) c) 6))))) 15 15)
def zfT:Cd:=cB (m 17 61008) zhJ
def zhD:Cd:=bO 12 11 10 (dL 12 0 (m 17 16) 2 1 (e5 1 9 11 5 (dG 6 (en 13 5 (bW 14 13 15) 2 zfT) (d4 4 6 (ec 1 0 [] 0 c []) (cr 1 bQ c 4)))) 11 11)
def zfU:Cd:=cB (m 17 3600) zhD
def zgy:Fun:=⟨2,17,0,false,[(3,none)],b4 (cg 2 3 0 3 d0) (c1 (p (aM 3 2) (d 1) (c9 (dF 64) 8)) 8 3 d0 (m 17 8)) (cQ (w 4 (eo 1)) (ce (eE (v 2 2) (d 1) dy (cM (dc 5) 9 (bu 67) 10 9 11)) 0 zfU) (b7 4 3 (m 17 8)))⟩
def zdG:Cd:=cW (dQ 5 4 18 2 18 0 (m 27 20) 1) 1 (b (cb 4 5 dy dq (K aC (bu 74) bR au (c6 4 (d 4) 1 (bC (d 5) 2 dy 3 dq 4 (E aC 5) (er (de 75 (.l 5)) 6 (d 5) 7 (ep 1) 8 19 9))))) (d7 19 3 7)) 5 5
def zby:Cd:=cj (m 27 52) zdG
def zdx:Cd:=cW (dQ 7 6 20 2 20 2 (m 27 84) 1) 3 (cu 4 6 (bd 7 dy dq aC (aI (de 75 (.l 5)) 21 (el 0))) (d7 21 3 7)) 7 7
def zbM:Cd:=cj (m 27 212) zdx
def zdN:Cd:=cW (dQ 8 6 22 2 22 4 (m 27 84) 1) 5 (dj 4 4 (d 6) (bd 8 dy dq aC (K (de 75 (.l 5)) (b0 5 7) (a5 3) (dc 2) (cb 6 8 dy (a5 3) (aI (dc 2) 23 (.eqa 2 true (.l 5) c))))) (d7 23 3 6)) 8 8
def zbx:Cd:=cj (m 27 340) zdN
def zR:Cd:=cW (dQ 11 6 24 2 24 6 (m 27 0) 2) 7 (b (cb 6 11 dy (dc 5) (dT 12 (H 0) dg 5 12)) (dj 4 4 (v 0 12) (K aC (de 75 bQ) (b0 5 4) (dc 5) (dT 13 (H 0) dg 5 13)) (.seq (cD 1 13 (p aC (el 0) (c3 1 13 (bC aC 1 (v 1 12) 2 aC 3 (E (dk .eql 2) 4) (bk (E au 5) (cx 2 13) aC 1 (ab (v 2 12) 2) (aU (dJ 3) (ab (dX 2) 4) (eI 5) 11 (bU 25 12) []))))) (ai 25 (.exit 7 (m 27 3152) 2))) (b (b3 1 13 (eE (v 1 12) (dk .eql 2) au (c6 10 (v 1 13) 1 (bC aC 2 (v 1 12) 3 aC 4 (E (em 79 (.l 4) bQ c []) 5) (er (v 1 13) 6 aC 7 (ep 2) 8 26 9))))) (d7 26 3 7))))) 11 11
def zI:Cd:=cB (m 27 3152) zR
def zi:Fun:=⟨2,27,0,false,[(3,none)],b (a2 2 (aN 3 0) 3) (J (bl 1 (el 0) (dd 1 (aK (E (eb 2) 1) (bU 14 2))) (d7 14 3 1)) (cY 3 2 (dC 70 15) (d7 15 3 4)) (J (cY 3 2 (dC 71 16) (d7 16 3 5)) (b (p (aM 3 2) (d 1) (c9 (dF 72) 17)) (d7 17 3 6)) (eL (aM 3 2) (ad (bu 73) 4) (e0 5 zby) (cY 3 2 (ad (bu 76) 6) (J (b6 7 2 zbM) (b6 8 4 zbx) (b (K (aM 3 2) (bu 77) au eQ (d2 eP 9 dY (cZ 2 9 bQ (q (.mv bQ))))) (eL (dI 9) (ad (cf 78 c (i 0)) 10) (b6 11 6 zI) (di (aY 3) (m 27 8)))))))))⟩
def zfq:Fun:=⟨2,6,0,false,[(3,none)],b4 (a2 2 (aN 3 0) 3) (bl 1 (el 0) (dd 1 (aK (E (eb 2) 1) (bU 5 2))) (cG 5 3 1 (m 6 8))) (b (p (aM 3 2) (d 1) (K (ct .ck 110 [] [] aJ c []) au eQ eP (ac (.mv aJ) 4 aJ))) (b7 4 3 (m 6 8)))⟩
def zdM:Cd:=cW (bA 5 (eC dK aC 4 dy dq aC aw (dX 7) (ee 3 (aK (ab (d5 c 20000) 1) (eR 8 2)))) 8 2 (m 10 26) 1) 3 (ci 3 (ca (u .add c 1) dK aC (d 4) dy dq aC (d 5) (ca (b1 4) (a5 2) aC aw (dk .add 11) dK aC (d 4) (ca dy dq aC (d 5) (b1 4) (a5 3) aC aw (eW 11 3))))) 5 5
def zbF:Cd:=cj (m 10 58) zdM
def zdv:Cd:=cW (bA 6 (eC dK aC 4 dy eF aC aw (dX 7) (ee 3 (aK (ab (d5 c 20000) 1) (eR 9 2)))) 9 4 (m 10 26) 1) 5 (ci 3 (K (u .add c 1) dK aC (d 4) (ca dy eF aC (d 6) (b1 6) (a5 4) aC aw (eW 11 3)))) 6 6
def zbC:Cd:=cj (m 10 90) zdv
def zdr:Cd:=cW (bA 4 (eE dK aw (dX 3) (ee 3 (aK (ab (d5 c 20000) 1) (eR 7 2)))) 7 0 (m 10 8) 1) 1 (bl 3 (u .add c 1) (eC dK aC 4 dy (a5 2) (a5 2) aC aw (eW 8 3)) (.seq (b6 5 2 zbF) (b6 6 4 zbC))) 4 4
def zbt:Cd:=cj (m 10 26) zdr
def zb0:Fun:=⟨1,10,0,false,[(2,none)],cX 1 3 0 2 M (b4 (b3 0 1 (ad aw 3)) (e0 4 zbt) (cU 3 (af .leq c 20000 2) (m 10 4)))⟩
def zey:Fun:=⟨2,4,0,false,[(3,none)],cX 2 3 0 3 M (cU 1 (cR (eM c 0) (et 1 (v 2 2) 1 (bp (dJ 2) aw 3 (dX 3) 4 (eJ 5) (cl (b8 (aM 3 2)) (cT (ab (cf 51 c (i 2)) 1) (cH 0) 2 (e3 3 3)))))) (m 4 8))⟩
def zpU:Cd:=bO 11 10 9 (dL 11 0 (m 13 0) 2 1 (eL (bV 1 8 10) (df 6) (ex 6 (cR (el 0) (c6 6 (v 1 2) 1 (bC aC 2 aw 3 (ek 3) 4 (dO 5) (dd 4 (cE (E (d 6) 1) (.lk (.one (cJ d6)) false aJ c) 2 (cS 3 (a0 (bL 4) (d 5) 1 (d 6) 2 (E b2 3) (er aC 4 (ef 69 (.l 4) c) 5 bR 6 12 7)))))))) 12 3 M (m 13 8)) (ci 4 (g (d 6) (e (.mu aJ c ar)) []))) 10 10)
def zp1:Cd:=cB (m 13 1844) zpU
def zrS:Fun:=⟨2,13,0,false,[(3,none)],b4 (cg 2 5 0 3 M) (c1 (bd 1 aw (v 1 2) aC (eA aw 7 3 c)) 7 3 M (m 13 8)) (b (ad .mkm 4) (eL (aM 5 2) (ad (bu 67) 5) (en 8 1 (bW 9 8 10) 0 zp1) (d9 3 ar (m 13 8))))⟩
def zeH:Cd:=cW (dQ 3 0 4 2 4 0 (m 6 0) 0) 1 (c1 (cb 0 3 b2 aC (a4 (d 1) 5 .eql 1 c)) 5 2 ar (m 6 4)) 3 3
def zcI:Cd:=cw (m 6 11) zeH
def zc6:Fun:=⟨2,6,0,false,[(2,none)],cQ (h 2 M) (e0 3 zcI) (d9 2 M (m 6 4))⟩
def zhS:Cd:=bO 18 17 16 (dL 18 2 (m 22 14584) 1000000 3 (e5 1 15 17 8 (cu 4 8 (K (.lk (.one (H 0)) true aJ c) au eQ eP (dD 9 aJ 10)) (bN 19 (d 10) (ai 19 (ci 3 (d1 6 3 6 b2 (dB 9 (ec 1 0 [] 0 c []) (.app 1 bQ c) (e7 (W 1 8 (.l 7)) aJ)))))))) 17 17)
def zfV:Cd:=dM (m 22 243960) zhS
def zhC:Cd:=bO 14 13 12 (dL 14 0 (m 22 8) 1000000 1 (bl 13 (bV 6 11 13) (d2 (dc 6) 7 (eh 0) (bT 6 dA (aV 6 7 bQ))) (.seq (ej (v 4 7) 15 aC 16 15 17 2 zfV) (J (cs (b3 0 7 (dC 68 20)) 20 (b (d1 3 6 3 (d 6) (eE b2 (d 5) (.app 1 aJ c) (e7 (W 1 7 (.l 6)) aJ))) (d4 5 6 (ec 1 0 [] 0 c []) (cr 1 bQ c 5)))) (cD 3 7 (aI aC 21 (eb 0)) (ai 21 (ci 4 (b3 3 7 (g (d 6) (e (.mu dA aJ c)) []))))) (aG 3 (bd 6 b2 aC (ap .op 117 [] [] c []) []) (d4 3 6 (d 3) (bd 6 b2 aC (ap .op 118 [] [] c []) (e7 (W 1 6 (.l 5)) aJ))))))) 13 13)
def zfR:Cd:=dM (m 22 14392) zhC
def ziu:Fun:=⟨1,22,0,false,[(2,none)],cX 1 5 0 2 d0 (cD 1 1 (eG aC aw (.mkr [aT] 0 1 c) 3) (b (ad .mkm 4) (cQ (w 5 (eo 1)) (ej (dm 1) 11 aC 12 11 13 0 zfR) (b7 3 2 (m 22 4)))))⟩
def zda:Fun:=⟨1,4,0,false,[(1,none)],cQ (h 1 M) (en 2 0 [] 0 (d8 2 4 3 3 (ck 2 16 3 3 2 17 3 3 (ck 2 18 3 3 2 19 3 3 (c0 2 20 3))) (bq 3 1 M (m 4 2)))) (cU 0 (cR (eM c 0) (et 0 (d5 c 22) 1 (e3 2 1))) (m 4 2))⟩
def zpY:Fun:=⟨2,4,0,false,[(3,none)],cX 2 1 0 3 M (cU 1 (eG (eq 120 [] (.s 2) []) (ef 119 aJ c) bR 3) (m 4 8))⟩
def zeG:Cd:=cW (c8 5 0 4 11 3 11 2 (m 16 26) 2) 3 (cD 0 4 (dB 5 (b1 4) (dc 4) (dz 6 (cL aT) 4 6)) (c1 (eE (v 0 6) (bu 122) bR (c3 1 6 (bC aC 1 (bu 122) 2 bR 3 (dO 4) (c3 2 6 (bC aC 1 (bu 121) 2 bR 3 (dO 4) (c3 3 6 (er aC 1 (bu 121) 2 bR 3 12 4))))))) 12 2 M (m 16 4))) 5 5
def zcE:Cd:=cB (m 16 58) zeG
def zeM:Cd:=cW (c8 7 1 4 13 3 13 4 (m 16 26) 2) 5 (cD 1 4 (dB 7 (b1 6) (dc 6) (dz 8 (eh 0) 6 8)) (c1 (eE (v 0 8) (bu 122) bR (c3 1 8 (bC aC 1 (bu 122) 2 bR 3 (dO 4) (c3 2 8 (bC aC 1 (bu 122) 2 bR 3 (dO 4) (c3 3 8 (bC aC 1 (bu 122) 2 bR 3 (dO 4) (c3 4 8 (er aC 1 (bu 121) 2 bR 3 14 4))))))))) 14 2 M (m 16 4))) 7 7
def zcF:Cd:=cB (m 16 154) zeM
def zQ:Cd:=cW (c8 3 2 1 10 3 10 0 (m 16 0) 1) 1 (cD 2 1 (dB 3 dy (dc 5) (dT 4 aT (ey 0 0) 5 4)) (J (b6 5 2 zcE) (b6 7 4 zcF) (cD 2 4 (eE dq (bu 122) bR (c3 2 4 (bC eF 1 aC 2 (bu 122) 3 (E bR 4) (cS 5 (cE (b5 2 4) (a5 2) 1 (er aC 2 (bu 121) 3 bR 4 15 5)))))) (bq 15 2 M (m 16 4))))) 3 3
def zJ:Cd:=cj (m 16 10) zQ
def zF:Fun:=⟨1,16,0,false,[(2,none)],cX 1 3 0 2 M (J (cD 2 1 (K aC aw (cH 0) au (eD 2 1 aC 1 aw 2 (E (eb 64) 3) (cS 4 (eD 0 1 aC 1 aw 2 (E (eb 16) 3) (cS 4 (eD 0 1 aC 1 (bu 121) 2 (E bR 3) (cS 4 (eD 1 1 aC 1 (bu 122) 2 (E bR 3) (cS 4 (a0 (bH (aM 3 1)) (bu 123) 1 (eb 512) 2 (bU 9 3) [])))))))))) (bq 9 2 M (m 16 4))) (e0 3 zJ) (d9 2 ar (m 16 4)))⟩
def zdB:Cd:=cW (c8 8 0 7 12 3 12 2 (m 14 106) 3) 3 (cD 0 7 (dB 8 (b1 4) (a5 2) (ca aC (v 1 3) aC (d 6) b2 aC (de 22 (.l 5)) bR (c3 0 7 (cE (E aC 1) (d 8) 2 (bC (b1 4) 3 (a5 3) 4 aC 5 (E aw 6) (bC (v 1 3) 7 aC 8 (d 6) 9 (E b2 10) (er aC 11 aw 12 (ep 6) 13 13 14))))))) (bq 13 2 M (m 14 4))) 8 8
def zbJ:Cd:=dP (m 14 490) zdB
def zai:Cd:=cW (c8 6 2 1 10 3 10 0 (m 14 0) 2) 1 (eL dK (dB 6 dy (dc 5) (dT 7 aT (ey 0 0) 5 7)) (ex 5 (bd 6 b2 aC bR (c3 2 7 (bC dq 1 aC 2 (cH 1) 3 (E au 4) (eD 2 7 dq 1 aC 2 (E (cH 3) 3) (am (E (bK 4) 9) (E au 10) (cx 2 7) (ab eF 1) (aU (dJ 2) (ab (e1 c 0) 3) (eI 4) 15 (bU 11 16) [])))))) 11 2 M (m 14 4)) (b6 8 2 zbJ)) 6 6
def zT:Cd:=cB (m 14 106) zai
def zaM:Fun:=⟨1,14,0,false,[(2,none)],cX 1 3 0 2 M (b4 (K (aM 3 1) (bu 77) au eQ (d2 eP 3 dY (cZ 2 3 bQ (h 4 bQ)))) (c1 (dh 4 9 (e1 c 0)) 9 2 M (m 14 4)) (eL (dI 3) (ad (em 124 c (i 0) (i (-1)) []) 5) (e0 6 zT) (d9 2 ar (m 14 4))))⟩
def zdF:Cd:=cW (c8 4 0 2 10 3 10 0 (m 19 6) 1) 1 (cD 0 2 (dB 4 b2 aC (dC 125 11)) (bq 11 3 M (m 19 8))) 4 4
def zbB:Cd:=cj (m 19 22) zdF
def zdH:Cd:=cW (cO 6 2 2 (bd 5 dy dq aC (c7 13 7)) 13 4 (m 19 38) 1) 5 (c1 (b3 2 2 (bd 5 dy dq aC (bd 6 (b1 4) dq aC (dC 125 14)))) 14 3 M (m 19 8)) 6 6
def zbu:Cd:=cj (m 19 102) zdH
def zds:Cd:=cW (cO 7 2 2 (bd 5 dy eF aC (c7 15 7)) 15 6 (m 19 38) 1) 7 (cD 2 2 (ca aC (d 5) dy eF aC (d 7) (b1 6) (dc 6) (dz 8 (eh 0) 6 8)) (bM (an 9 22) (J (dH 1 16 (cH 1) 16 (bm (an 9 20) [])) (dH 1 17 (cH 0) 17 (bm (an 9 17) [])) (c1 (K (aM 6 8) (bu 126) bR au (eD 0 8 aC 1 (d 9) 2 (E (dk .gtr 1) 3) (cS 4 (a0 (bL 1) (el 2) 1 au 2 (cx 2 8) (aU (dJ 1) (ab (eb 1) 2) (eI 3) 6 (bU 18 7) []))))) 18 3 M (m 19 8))))) 7 7
def zbN:Cd:=cj (m 19 166) zds
def zaE:Cd:=cW (c8 5 2 2 12 3 12 2 (m 19 4) 1) 3 (.seq (b6 6 4 zbu) (b6 7 6 zbN)) 5 5
def zag:Cd:=cj (m 19 38) zaE
def zaO:Fun:=⟨2,19,0,false,[(3,none)],cX 2 3 0 3 M (J (e0 4 zbB) (b6 5 2 zag) (aH (b3 1 2 (ad (bu 125) 3)) (m 19 8)))⟩
def zei:Cd:=cW (c8 4 0 1 11 3 11 0 (m 16 10) 2) 1 (d4 3 4 (u .add c 1) (eC (dm 0) aC 4 b2 aC (dn bj 0 1 c 1 1 1 []) (dn (H 0::dg) 0 1 (.l 6) 1 1 (-1) [(3,2,c)]) (cF 5 0 dg [] 0 c []) (cr 5 (.l 10) c 3))) 4 4
def zbS:Cd:=cB (m 16 26) zei
def zdX:Cd:=cW (c8 7 0 6 13 3 13 4 (m 16 106) 3) 5 (ci 3 (eC (v 0 6) aC 7 (b1 4) eF aC (d 5) (v 0 6) (ca aC (d 7) (b1 4) dq aC (dn bj 0 1 c 1 1 1 []) (cN (H 0::dg) 0 1 (.l 8) 1 1 (.l 7) [(2,1,i (-1)),(3,2,c)]) (cF 5 0 dg [] 0 c []) (cr 5 (.l 16) c 3)))) 7 7
def zcf:Cd:=dP (m 16 234) zdX
def zee:Cd:=cW (c8 8 1 6 14 3 14 6 (m 16 42) 3) 7 (cD 1 6 (ca aC (d 8) (b1 6) (dc 6) (bu 127) au eQ eP (dD 9 aJ 10)) (dH 9 15 (eb 0) 15 (.reg (aP 3 (v 1 6) (ca aC (d 8) (b1 6) (a5 3) aC (d 5) (d 8) (d 9) (bd 10 (cN bj 0 1 aJ 1 1 c []) (cN (H 0::dg) 0 1 (.l 5) 1 1 (.l 4) [(2,1,dA),(3,2,c)]) (cF 5 0 dg [] 0 c []) (cr 5 (.l 13) c 3))))))) 8 8
def zb3:Cd:=dP (m 16 362) zee
def zdT:Cd:=cW (c8 5 2 1 12 3 12 2 (m 16 8) 2) 3 (eL dK (dB 5 dy (dc 5) (dT 6 aT (ey 0 0) 5 6)) (b6 7 4 zcf) (b6 8 6 zb3)) 5 5
def zbZ:Cd:=cB (m 16 42) zdT
def zeO:Fun:=⟨1,16,0,false,[(2,none)],cX 1 3 0 2 d0 (bN 3 (eo 5) (J (e0 4 zbS) (b6 5 2 zbZ) (b7 3 2 (m 16 4))))⟩
def zaN:Fun:=⟨1,2,0,false,[(1,none)],eu 1 0 (cR (eb 0) (et 0 (el 1024) 1 (e3 2 1))) (m 2 2)⟩
def zec:Cd:=cW (dQ 3 0 4 2 4 0 (m 6 0) 0) 1 (aG 0 (bd 3 dy dq aC (a4 (d 1) 5 .eql 1 c)) (ai 5 (b7 3 2 (m 6 4)))) 3 3
def zcn:Cd:=cw (m 6 11) zec
def zcC:Fun:=⟨2,6,0,false,[(2,none)],dG 2 (e0 3 zcn) (ds 2 (-1) (m 6 4))⟩
def zea:Cd:=cW (c8 8 3 7 14 3 14 4 (m 19 122) 4) 5 (.reg (bd 3 (v 3 7) aC (d 8) (eE b2 (v 2 7) aC (bd 8 b2 aC (v 0 7) (K aC (dn bj 0 1 c 1 1 1 []) (cN (H 0::dg) 0 1 (.l 8) 1 1 dA [(2,1,i 1000),(3,2,c)]) (cF 5 0 dg [] 0 c []) (cr 5 (.l 15) c 3)))))) 8 8
def zb1:Cd:=.loop (m 19 506) 4 zea
def zd0:Cd:=cW (c8 6 0 5 13 3 13 2 (m 19 58) 3) 3 (cD 0 5 (dB 6 (b1 4) (dc 4) (dz 7 (cL aT) 4 7)) (b6 8 4 zb1)) 6 6
def zcp:Cd:=dP (m 19 122) zd0
def zd8:Cd:=cW (dQ 11 10 16 2 16 8 (m 19 570) 3) 9 (.reg (aP 3 (v 1 5) (ca aC (d 9) (b1 6) (a5 4) aC (d 11) b2 aC (d1 4 9 10 (d 11) (K (b1 2) (dc 2) (cN (H 0::dg) 0 1 (.l 6) 1 1 (.l 5) [(2,1,.l 4),(3,2,c)]) (cF 5 0 dg [] 0 c []) (cr 5 (.l 17) c 3)))))) 11 11
def zcq:Cd:=dP (m 19 3642) zd8
def zej:Cd:=cW (c8 9 1 5 15 3 15 6 (m 19 58) 3) 7 (cD 1 5 (dB 9 (b1 6) (dc 6) (ad (bu 128) 10)) (b6 11 8 zcq)) 9 9
def zcj:Cd:=dP (m 19 570) zej
def zeq:Cd:=cW (c8 4 2 1 12 3 12 0 (m 19 8) 2) 1 (eL dK (dB 4 dy (dc 5) (dT 5 aT (ey 0 0) 5 5)) (b6 6 2 zcp) (J (b6 9 6 zcj) (cs (bX 2 5 dq (aI aC 17 (cH 0))) 17 (.reg (aP 3 (v 2 5) (eC eF aC 4 (dm 1) aC (dn bj 0 1 c 1 1 1 []) (cN (H 0::dg) 0 1 (.l 4) 1 1 dA [(2,1,i 1000),(3,2,c)]) (cF 5 0 dg [] 0 c []) (cr 5 (.l 9) c 3))))) (cs (bX 2 5 dq (aI aC 18 (cH 2))) 18 (.reg (bd 3 (v 2 5) eF aC (bd 4 (dn bj 0 1 (i 1) 1 1 1 []) (cN (H 0::dg) 0 1 bQ 1 1 aJ [(2,1,i 1000),(3,2,c)]) (cF 5 0 dg [] 0 c []) (cr 5 (.l 7) c 3))))))) 4 4
def zce:Cd:=cB (m 19 26) zeq
def zeJ:Fun:=⟨1,19,0,false,[(2,none)],cX 1 3 0 2 d0 (cQ (w 3 (eo 5)) (e0 4 zce) (b7 3 2 (m 19 4)))⟩
def zfc:Cd:=cW (c8 9 2 7 14 3 14 2 (m 18 502) 5) 3 (cD 2 7 (p aC (d 9) (eE b2 (d5 c 0) au (eD 2 7 aC 1 (d 9) 2 (E b2 3) (er aC 4 (d 4) 5 (ek 1) 6 15 7)))) (aQ 15 (eO dY [] []) (cZ 2 2 c (an 3 5)) (m 18 12))) 9 9
def zdb:Cd:=.loop (m 18 1014) 5 zfc
def ze6:Cd:=cW (bA 10 (be (d 4) 16 1 c) 16 4 (m 18 374) 5) 5 (cs (b3 2 7 (dh 10 17 (dF 66))) 17 (d4 8 10 (ec 1 0 [] 0 c []) (cr 1 bQ c 8))) 10 10
def zde:Cd:=.loop (m 18 1526) 5 ze6
def zak:Cd:=cW (bA 6 (be (d 4) 12 1 c) 12 0 (m 18 36) 3) 1 (b4 (b3 2 1 (bd 6 dy (a5 2) (dc 3) (dT 7 (H 0) (dS 0) 3 7))) (cD 0 7 (p aC (el 0) (c3 0 7 (cE (E aC 1) (eb 3) 2 (cS 3 (cE (b5 2 7) aC 1 (bC aw 2 (ec 1 0 (ed 0 (ed 0 (ed 0 []))) 0 (i 0) ((1,i 1)::e4 (2,i 2) (3,i 0) [])) 3 (v 0 7) 4 (E aC 5) (er (b0 1 2) 6 aC 7 (ep 5) 8 13 9))))))) (aQ 13 (eO dY [] []) (cZ 2 2 c (an 3 5)) (m 18 12))) (bN 8 (eo 1) (J (b6 9 2 zdb) (ak (an 10 1) [] 4 zde) (d4 5 8 (bP 1 aT [] [] 0 c []) (cr 1 bQ c 5))))) 6 6
def zZ:Cd:=dP (m 18 118) zak
def zas:Fun:=⟨1,18,0,false,[(2,some (some 2)),(3,none)],r (w 1 (aN 3 0)) (a2 2 (bn dY) 3) (b4 (b3 2 1 (ad aw 4)) (bl 4 (cH 0) (dd 4 (aK (E (eb 64) 1) (bU 11 2))) (aQ 11 (eO dY [] []) (cZ 2 2 c (an 3 5)) (m 18 12))) (cQ (w 5 (eo 1)) (e0 6 zZ) (aH (bd 5 (bu 129) eQ eP (cZ 2 2 aJ (h 3 aJ))) (m 18 12))))⟩
def zd5:Cd:=cW (bA 9 (be (d 4) 17 1 c) 17 2 (m 24 246) 1000000) 3 (.reg (aP 6 (d 7) (eE b2 (d 9) (d 5) (bd 9 b2 aC au (et 8 (d 9) 1 (bp (ab b2 2) aC 3 bR 4 (eJ 5) (e7 (W 1 12 (.l 11)) aJ))))))) 9 9
def zct:Cd:=dM (m 24 1014) zd5
def zeo:Cd:=cW (bA 7 (be (d 4) 16 1 c) 16 0 (m 24 82) 1000000) 1 (b (d1 6 7 4 (eX (cJ d6) [] none c) (e7 (W 1 3 bQ) aJ)) (cY 2 2 (aP 1 (d 7) (ad (em 124 bQ aJ c []) 8)) (b6 9 2 zct))) 7 7
def zb8:Cd:=dM (m 24 246) zeo
def zdQ:Cd:=cW (bA 14 (be (d 4) 22 1 c) 22 8 (m 24 15442) 1000000) 9 (.reg (aP 13 au (et 14 (d 11) 1 (am (ab (dk .eql 1) 2) (ab au 3) (bL 6) (E (d 14) 1) (bC b2 2 aC 3 (d 11) 4 (E b2 5) (bk (E aC 6) (E bR 7) (bK 8) 12 (ab au 13) (a0 (bL 6) (d 14) 1 b2 2 (E aC 3) (bC (d 12) 4 b2 5 aC 6 (ab (bK 7) 21) (e3 22 13))))))))) 14 14
def zch:Cd:=dM (m 24 31826) zdQ
def zbU:Cd:=cW (b (cb 12 4 (dX 1) au (bp (b9 11) (d 1) 1 (ep 1) 2 (eR 20 3) [])) (ah 20 6 (m 24 3154) 1000000)) 7 (.seq (dj 12 11 (dk .eql 1) (dd 6 (bC (d 12) 1 b2 2 aC 3 (E (d 11) 4) (er b2 5 aC 6 bR 7 21 8))) (ai 21 (.exit 7 (m 24 7250) 1000000))) (cQ (h 13 ar) (b6 14 8 zch) (bN 23 (d 13) (ai 23 (d4 10 11 (d 12) (e7 (W 1 2 aJ) aJ)))))) 12 12
def zam:Cd:=dM (m 24 7250) zbU
def zdZ:Cd:=cW (bA 11 (be (d 4) 18 1 c) 18 4 (m 24 1024) 1000000) 5 (cu 10 11 (e7 b2 (i (-2))) (.seq (aG 11 (a4 (d 1) 19 .eql 1 c) (ai 19 (.reg (aP 10 (d 11) (e7 b2 (i (-1))))))) (b6 12 6 zam))) 11 11
def zcs:Cd:=dM (m 24 3154) zdZ
def zeI:Fun:=⟨2,24,0,false,[(3,none)],b4 (cg 2 2 0 3 d0) (c1 (K (dI 2) (bu 130) bR au (c6 1 (el 0) 1 (cS 2 (c6 1 (v 0 2) 1 (er aC 2 aw 3 (ek 3) 4 15 5))))) 15 3 d0 (m 24 8)) (b (b3 0 2 (ad aw 4)) (b (eG (dI 2) (d 1) (em 124 aJ c (i (-1)) []) 5) (eS 4 (eX aT [] none c) 6 (.seq (e0 7 zb8) (eS 4 (eX (H 0) [] none c) 10 (.seq (b6 11 4 zcs) (b7 10 3 (m 24 8))))))))⟩
def zd6:Cd:=cW (dQ 6 4 8 2 8 0 (m 10 0) 0) 1 (b (d1 5 4 6 b2 (aI aC 9 (de 66 (.l 4)))) (aQ 9 (aj 4) (aP 6 b2 (df 3)) (m 10 8))) 6 6
def zb7:Cd:=cw (m 10 112) zd6
def za8:Fun:=⟨3,10,0,false,[(3,none)],dG 3 (aG 0 (dC 131 7) (cG 7 3 (-2) (m 10 8))) (cu 0 1 (ad (dF 132) 4) (cu 0 2 (ad (dF 132) 5) (.seq (e0 6 zb7) (ds 3 (-2) (m 10 8)))))⟩
def zlq:Cd:=bO 11 10 9 (dL 11 0 (m 13 36) 4 1 (b4 (eY 5 8 10 (dc 5) (dT 6 aT (ey 0 0) 5 6)) (b (bX 2 6 dq (ca aC (bu 143) (v 2 6) (a5 2) aC aw (ep 4) au (cE (b5 2 6) (a5 2) 1 (er aC 2 (eq 144 [] (.s 4) []) 3 (ef 119 aJ c) 4 12 5)))) (aQ 12 (eO dY [] []) (cZ 2 2 c (an 3 5)) (m 13 12))) (.reg (bd 5 (v 2 6) (a5 2) aC (K (ap .ck 146 [] [] c []) (ap .op 145 [] [] c []) (ap .op 118 [] [] c []) (bP 1 aT [] [] 0 c []) (cr 1 (.l 7) c 5))))) 10 10)
def ziT:Cd:=.loop (m 13 1844) 4 zlq
def zgF:Fun:=⟨1,13,0,false,[(2,some (some 2)),(3,none)],r (w 1 (aN 3 0)) (a2 2 (bn dY) 3) (eL dK (p aC aw (dT 4 (H 0) [] 1 4)) (b (aI (cC 4) 7 (eb 64)) (aQ 7 (eO dY [] []) (cZ 2 2 c (an 3 5)) (m 13 12))) (cQ (w 5 (eo 1)) (ej dK 8 aC 9 8 10 0 ziT) (aH (bd 5 (bu 147) eQ eP (cZ 2 2 aJ (h 3 aJ))) (m 13 12))))⟩
def zhR:Cd:=c5 (b (bd 8 (.iaa 64 1 (.s 5) c) aC (v 0 2) (dB 8 b2 aC (c7 11 6))) (ah 11 0 (m 14 500) 5)) 1 (cD 0 2 (dB 8 b2 aC (bd 8 (.iaa 64 1 (.s 5) c) aC (b0 1 3) (df 9))) (b (bd 8 (.iaa 64 1 (.s 5) c) aC (u .add c 1) (e7 (.iaa 64 1 (.s 5) dA) aJ)) (bl 9 (.iaa 64 1 (.s 4) c) (c9 aC 12) (ai 12 (aG 9 (e7 (.iaa 64 1 (.s 4) c) ar) (dj 7 9 (ec 1 0 [] 0 c []) (cr 1 bQ c 7) (.goto 0 (m 14 244) 5)))))))
def zfY:Cd:=.loop (m 14 500) 5 zhR
def zr:Cd:=.seq (c1 (K (dI 2) (bu 148) bR au (c6 1 (el 0) 1 (cS 2 (c6 1 (v 0 2) 1 (er aC 2 aw 3 (ek 3) 4 10 5))))) 10 3 d0 (m 14 8)) (bN 4 (bn (yI (yD 64 [.f (.lit (.bool false))]))) (bN 5 (bn (yI (yD 64 [.f (.lit (.int .i64 0))]))) (bN 6 (.nl .rw 1) (eS 1 (bz .rw 1 [H 0] [] 0 c []) 7 (aG 1 (e7 (.iaa 64 1 (.s 4) c) ar) (.seq (.label 0) (aG 7 (bd 7 aw (u .sub c 1) (b0 1 3) (df 8)) (.seq (eZ zfY) (dj 6 8 (ec 1 0 [] 0 c []) (cr 1 bQ c 6) (b4 (cb 7 7 aw (u .sub c 1) (ad (.slc 1 dA none (some c) none) 7)) (aG 7 (aI aw 13 (eb 0)) (ai 13 (.goto 0 (m 14 244) 5))) (bl 6 (ap .op 149 [] [] c []) [] (b7 6 3 (m 14 8)))))))))))))
def zhA : Go.A.Code:=(findLabel zr 0).getD .skip
theorem zh7 : findLabel zr 0 = some zhA:=rfl
def ziM:Fun:=⟨2,14,0,false,[(3,none)],cX 2 2 0 3 d0 (.scope zr)⟩
def zes:Fun:=⟨1,4,0,false,[(2,none)],b4 (cg 1 3 0 2 M) (c1 (eE dK aw (el 1) (c3 2 1 (bC aC 1 aw 2 (eb 64) 3 (dO 4) (c3 0 1 (bC aC 1 aw 2 (eb 16) 3 (dO 4) (cl (bH (aM 3 1)) (cE (E (bu 151) 1) (eb 512) 2 (cS 3 (cE (b5 1 1) aC 1 (bC (ec 1 0 [] 0 c []) 2 (bu 152) 3 bR 4 (dO 5) (c3 0 1 (er aC 1 (bu 152) 2 bR 3 3 4)))))))))))) 3 2 M (m 4 4)) (eN dK (eG aC (ef 153 c (U 154 [] [])) bR 2) (m 4 4))⟩
def zbf:Cd:=bO 12 11 10 (dL 12 0 (m 14 32) 5 1 (e5 1 9 11 6 (eS 6 (.call .op c []) 7 (dH 7 13 (e1 c 0) 13 (ev 5 (d 7) (dD 3 aJ 4) (m 14 24))))) 11 11)
def zbb:Cd:=.loop (m 14 3616) 5 zbf
def zaP:Fun:=⟨2,14,5,false,[(3,none),(4,none)],r (w 2 (aN 3 0)) (bT 3 (y (cJ (.pointer none))) (aY 4)) (cY 3 2 (aP 1 (cN (cy (H 0) (cy (H 0) (cy aT (cz (cJ (.map none)))))) 0 3 aJ 3 1 c []) (ad (.box 8 c) 5)) (J (cY 3 2 (dC 105 8) (aQ 8 (aj 5) (bT 3 c (an 4 4)) (m 14 24))) (eT 5 (ca (.mkf 159 [c] []) (d 5) (.mkf 160 [c] []) (d 5) (.mkf 161 [c] []) (d 5) (.mkf 162 [c] []) (d 5) (cM (.mkf 163 [c] []) 9 (bz .rw 1 [ew] (dv ew [] (dv ew [] (dv ew [] (dv ew [] [])))) 0 (.l 8) (e4 (1,.l 6) (2,.l 4) (e4 (3,bQ) (4,c) []))) 10 9 11)) 0 zbb) (cU 5 (bT 3 c (aY 4)) (m 14 24))))⟩
def zcx:Fun:=⟨2,3,0,false,[(2,none)],eu 2 0 (aP 1 (ef 169 aJ c) (af .geq c 0 2)) (m 3 4)⟩
def znZ:Fun:=⟨2,3,0,false,[(2,none)],ei 2 (eN (cC 1) (aP 0 (.lk (.one (cJ d6)) false aJ c) (ad bR 2)) (m 3 4))⟩
def zdR:Cd:=cW (dQ 2 0 3 2 3 0 (m 5 1) 0) 1 (c1 (cb 0 2 b2 aC (dC 122 4)) 4 1 M (m 5 2)) 2 2
def zco:Cd:=cw (m 5 5) zdR
def zcD:Fun:=⟨1,5,0,false,[(1,none)],cQ (h 1 M) (e0 2 zco) (ev 0 aw (af .leq c 64 1) (m 5 2))⟩
def zc9:Fun:=⟨1,2,0,false,[(1,none)],eu 1 0 (cR (eM c 0) (et 0 (d5 c 2147483647) 1 (e3 2 1))) (m 2 2)⟩
def zd3:Cd:=cW (c8 4 2 1 5 3 5 0 (m 6 8) 1) 1 (ci 3 (eC dK aC 4 dy dq aC aw (dk .add 7) (eC dK aC 4 dy eF aC aw (dk .add 7) (a3 c 1 3)))) 4 4
def zb9:Cd:=cj (m 6 26) zd3
def zeN:Fun:=⟨1,6,0,false,[(2,none)],b (a2 1 (aN 3 0) 2) (dG 3 (e0 4 zb9) (b7 3 2 (m 6 4)))⟩
def zbz:Cd:=cW (b (cb 5 7 b2 aC (ee 8 (cm (ab (v 0 3) 1) aC 2 (d 7) 3 b2 4 (bp (dJ 5) aw 6 (dX 6) 7 (eR 12 8) [])))) (ah 12 4 (m 14 236) 2)) 5 (cs (eC (v 0 3) aC 7 b2 aC (d 8) b2 aC (eA (d 2) 13 1 c)) 13 (ci 5 (eC (v 0 3) aC 7 b2 aC (d 8) b2 aC (e7 (b0 1 8) ar)))) 8 8
def zah:Cd:=cB (m 14 492) zbz
def zdA:Cd:=cW (dQ 7 5 11 2 11 2 (m 14 108) 2) 3 (b6 8 4 zah) 7 7
def zbD:Cd:=cB (m 14 236) zdA
def zdI:Cd:=cW (dQ 6 5 10 2 10 0 (m 14 32) 2) 1 (b6 7 2 zbD) 6 6
def zbv:Cd:=cB (m 14 108) zdI
def zck:Fun:=⟨3,14,0,false,[(4,none)],cX 3 2 0 4 d0 (eL (v 0 3) (eG aC aw (eX (cJ d6) [] none c) 5) (aG 1 (a4 (d 2) 9 .eql 1 c) (ai 9 (b7 5 4 (m 14 16)))) (cu 5 1 (e7 b2 ar) (.seq (e0 6 zbv) (b7 5 4 (m 14 16)))))⟩
def zal:Fun:=⟨1,2,0,false,[(1,none)],eu 1 0 (cR (cH 1) (c6 0 (cH 8) 1 (cS 2 (c6 0 (cH 16) 1 (cS 2 (c6 0 (cH 32) 1 (cS 2 (c6 0 (cH 64) 1 (ad (bK 2) 1))))))))) (m 2 2)⟩
def zeK:Cd:=cW (c8 3 4 1 5 3 5 0 (m 8 2) 1) 1 (cD 4 1 (dB 3 b2 aC (dC 74 6)) (bq 6 2 M (m 8 4))) 3 3
def zcG:Cd:=cj (m 8 10) zeK
def zG:Fun:=⟨1,8,0,false,[(2,none)],b4 (cg 1 6 0 2 M) (cD 1 1 (p aC dK (K aC (de 170 bQ) bR au (cE (bH (aM 6 1)) (bu 171) 1 (bC (dm 4) 2 aC 3 aw 4 (E (ep 3) 5) (cS 6 (a0 (bH (aM 6 1)) (bu 172) 1 bR 2 (bU 4 3) [])))))) (bq 4 2 M (m 8 4))) (J (e0 3 zcG) (cs (eE (dm 0) (cH 17) au (eD 0 1 aC 1 (cH 19) 2 (bU 7 3) [])) 7 (aH (b3 3 1 (af .eql c 0 2)) (m 8 4))) (aH (b3 3 1 (ad (bu 74) 2)) (m 8 4)))⟩
def zB:Fun:=⟨1,7,0,false,[(2,none),(3,none)],aX (w 1 (aN 6 0)) (aK (aY 2) (aY 3)) (cY 6 1 (p (bu 126) bR (c3 0 1 (cE (E aC 1) (cH 17) 2 (cS 3 (eD 0 1 aC 1 (cH 19) 2 (bU 4 3) []))))) (ai 4 (dN (aK (aY 2) (aY 3))))) (J (cs (eE (dm 0) (eM c 10) au (bp (cx 0 1) aC 1 (d5 c 12) 2 (eR 5 3) [])) 5 (dN (aK (an 2 1) (an 3 1)))) (cD 0 1 (aI aC 6 (cH 22)) (ai 6 (dN (b3 1 1 (bT 2 c (an 3 1)))))) (dN (eE (dm 1) dK aC (dD 2 bQ 3))))⟩
def zdC:Cd:=cW (c8 4 4 1 7 3 7 0 (m 18 8) 2) 1 (eL (dm 1) (K aC dK aC (cN bj 0 1 bQ 1 1 c []) (dz 5 bj 2 5)) (ce (aI (dm 0) 8 aC) 2 (d8 8 13 9 9 (c0 8 20 9) (o 9 (dH 4 10 (cH 0) 10 (.reg (g (dn bj 0 1 (i 1) 1 1 1 []) (aV 2 5 c) []))) (d8 8 14 11 11 (c0 8 15 11) (o 11 (bm (q (dm 5)) (p aC es (g (dn bj 0 1 c 1 1 1 []) (aV 2 5 c) []))) (d8 8 16 12 12 (c0 8 17 12) (o 12 (dH 4 13 (cH 0) 13 (.reg (g (dn bj 0 1 (i 64) 1 1 1 []) (aV 2 5 c) []))) (d8 8 18 14 14 (c0 8 19 14) (ez 14 (.seq (dH 4 15 (cH 0) 15 (.reg (g (dn bj 0 1 (i 1) 1 1 1 []) (aV 2 5 c) []))) (dH 4 16 (cH 1) 16 (.reg (g (dn bj 0 1 (i 64) 1 1 1 []) (aV 2 5 c) [])))) 8 21 17 (ai 17 (.reg (b3 1 1 (g (dn bj 0 1 c 1 1 1 []) (aV 2 5 c) []))))))))))))) (ci 3 (p (dI 5) (bD 2 bj [] 0 c []) (cr 2 bQ c 3)))) 4 4
def zbG:Cd:=cB (m 18 26) zdC
def zb2:Fun:=⟨1,18,0,false,[(2,none)],cX 1 6 0 2 d0 (bN 3 (eo 2) (J (cY 6 1 (dC 126 6) (bq 6 2 d0 (m 18 4))) (e0 4 zbG) (b7 3 2 (m 18 4))))⟩
def zd7:Cd:=cW (bA 5 (cb 0 4 b2 aC (c7 11 5)) 11 2 (m 16 27) 1) 3 (aG 0 (bd 4 b2 aC (d 5) (eE b2 (el 0) au (c6 0 (d 4) 1 (bC b2 2 aC 3 (d 5) 4 (E b2 5) (bC aC 6 (d 3) 7 (ek 1) 8 (dO 9) (dd 5 (am (E (eb 0) 1) (E au 2) (b9 0) (ab (d 4) 1) (cm (ab b2 2) aC 3 (d 5) 4 b2 5 (cm (dJ 6) (d 0) 7 (d 4) 8 b2 9 (cm (dJ 10) (d 5) 11 (u .sub c 1) 12 (b0 1 2) 13 (aU (dJ 14) (ab (dk .leq 8) 15) (eI 16) 19 (bU 12 20) []))))))))))) (aQ 12 (eO dY [] []) (cZ 2 1 c (an 2 5)) (m 16 6))) 5 5
def zcr:Cd:=cj (m 16 59) zd7
def zd1:Cd:=cW (bA 4 (be (d 3) 10 1 c) 10 0 (m 16 11) 1) 1 (b6 5 2 zcr) 4 4
def zcu:Cd:=cj (m 16 27) zd1
def zef:Cd:=cW (bA 8 (be (d 3) 14 1 c) 14 6 (m 16 203) 4) 7 (cs (cb 0 8 b2 aC (dh 7 15 (dF 66))) 15 (.regd [(1,11)] (q (v 1 6)::p aC (d 7) (eC (v 1 6) aC 7 b2 aC (d 8) (ec 1 0 [] 0 c []) (.app 1 bQ c) (e7 (W 1 9 (.l 8)) aJ))))) 8 8
def zcl:Cd:=.loop (m 16 459) 4 zef
def zem:Cd:=cW (bA 7 (be (d 3) 13 1 c) 13 4 (m 16 66) 4) 5 (b6 8 6 zcl) 7 7
def zcg:Cd:=.loop (m 16 203) 4 zem
def zaz:Fun:=⟨1,16,0,false,[(1,some (some 2)),(2,none)],b (a2 1 (bn dY) 2) (eS 0 aw 3 (J (bl 3 (cH 0) (dd 3 (aK (E (eb 64) 1) (bU 9 2))) (aQ 9 (eO dY [] []) (cZ 2 1 c (an 2 5)) (m 16 6))) (e0 4 zcu) (b4 (cb 0 3 (eX aT [] (some (0,1)) c) (cN dY 0 1 bQ 1 1 c []) (dz 6 dY 2 6)) (b6 7 4 zcg) (eN (dI 6) (cZ 2 1 c (aY 2)) (m 16 6)))))⟩
def ze9:Fun:=⟨1,5,0,false,[(2,none)],cX 1 2 0 2 M (cD 0 1 (K aC (bu 129) au eQ (d2 eP 3 dY (cZ 2 3 bQ (h 4 bQ)))) (ev 4 (cH 0) (cl (b8 (dI 3)) (cT (ab (dI 1) 1) (dF 173) 2 (e3 3 2))) (m 5 4)))⟩
def zdt:Cd:=cW (dQ 3 0 4 2 4 0 (m 7 4) 0) 1 (.seq (dj 0 3 b2 (aI aC 5 (cH (-1))) (ai 5 (ci 2 (a3 c 1 2)))) (cu 0 3 (eE b2 (e1 c (-2)) au (et 0 (d 3) 1 (bp (ab (dF 132) 2) aw 3 (cH 0) 4 (eR 6 5) []))) (bq 6 1 M (m 7 2)))) 3 3
def zbw:Cd:=cw (m 7 13) zdt
def zci:Fun:=⟨1,7,0,false,[(1,none)],ei 1 (dG 2 (e0 3 zbw) (cU 2 (af .eql c 1 1) (m 7 2)))⟩
def zap:Cd:=c5 (bA 3 (dr aw 0 aw (dX 2) (ee 1 (a (ab (eM c 0) 1) (eJ 2) (ee 1 (bp (ab (d 0) 1) aw 2 (dX 2) 3 (eR 4 4) []))))) 4 0 (m 6 0) 1) 1 (dj 3 1 (ec 1 0 [] 0 c []) (cr 1 bQ c 3) (.seq (dj 0 1 b2 (aI aC 5 (cH (-1))) (ai 5 (b7 3 2 (m 6 4)))) (d4 0 1 b2 (df 1))))
def zY:Cd:=cj (m 6 11) zap
def zcH:Fun:=⟨2,6,0,false,[(2,none)],cp 2 d0 (cQ (w 3 (eo 1)) (eZ zY) (d9 2 d0 (m 6 4)))⟩
def zfg:Fun:=⟨1,6,0,false,[(1,none)],dG 1 (en 2 0 [] 0 (d8 2 0 3 3 (c0 2 3 3) (ez 3 (di (aY 1) (m 6 2)) 2 1 4 (ez 4 (ds 1 1 (m 6 2)) 2 2 5 (cG 5 1 2 (m 6 2)))))) (ds 1 (-1) (m 6 2))⟩
def zhr:Fun:=⟨2,3,0,false,[(2,none)],ei 2 (ev 0 (el 1) (dd 0 (cE (E (cC 1) 1) (ek 1) 2 (ad (bK 3) 2))) (m 3 4))⟩
def zfa:Fun:=⟨1,3,1,false,[(2,none)],cX 1 1 0 2 (y ew) (aH (ad (eq 177 [] (.s 1) []) 2) (m 3 4))⟩
def ziO:Cd:=bO 10 9 8 (dL 10 0 (m 11 18) 3 1 (e5 1 7 9 5 (.reg (cb 4 5 (bu 181) (bP 1 aT [] [] 0 c []) (cr 1 dA c 4)))) 9 9)
def zgv:Cd:=dP (m 11 914) ziO
def zfk:Fun:=⟨1,11,0,false,[(1,some (some 2)),(2,none)],b (a2 1 (bn dY) 2) (bl 0 aw (dT 3 (H 0) [] 1 3) (.seq (bE (cC 3) (cR (el 1) (cE (bH (cC 3)) (eb 64) 1 (cS 2 (a0 (bL 0) (eq 179 [] (.s 3) []) 1 (ef 178 aJ c) 2 (bU 6 3) [])))) (aQ 6 (eO dY [] []) (cZ 2 1 c (an 2 5)) (m 11 6))) (eL (cC 3) (ad (.mkc 1 c) 4) (en 7 0 (bW 8 7 9) 0 zgv) (aH (cb 4 4 (bu 182) (cN dY 0 1 bQ 1 1 c []) (cZ 2 1 c (aY 2))) (m 11 6)))))⟩
def zig:Fun:=⟨1,5,0,false,[(2,none)],cX 1 2 0 2 M (cD 0 1 (K aC (bu 147) au eQ (d2 eP 3 dY (cZ 2 3 bQ (h 4 bQ)))) (ev 4 (cH 0) (ea 1 3 (cm (dJ 1) (dm 1) 2 aC 3 (dW 183 bQ c [U 184 [] []]) 4 (e3 5 2))) (m 5 4)))⟩
def zdY:Cd:=al (bA 1 (be (d 2) 3 1 c) 3 0 (m 4 0) 0) 1 (.reg (d1 0 1 0 (d 2) (cb 0 2 b2 aC (cb 0 1 b2 aC (c2 (W 1 11 (.l 10)) 1 c (.l 5) (e7 (W 1 11 (.l 10)) dA)))))) (bd 1 (u .add c 1) (d 2) (u .sub c 1) (dD 1 bQ 2))
def zaK:Cd:=cw (m 4 7) zdY
def zeP:Fun:=⟨1,4,0,false,[],eT 0 (p aw (u .sub c 1) (aK (aY 1) (h 2 aJ))) 0 zaK⟩
def zjD:Cd:=bO 8 7 6 (dL 8 0 (m 9 8) 1 1 (b (eY 5 5 7 (dc 5) (dT 4 aT (ey 0 0) 5 4)) (.reg (bd 3 (v 0 4) aC aw (eE (v 1 4) aw (dk .add 3) (eW 7 3))))) 7 7)
def zhi:Cd:=cj (m 9 232) zjD
def zk0:Fun:=⟨1,9,0,false,[(2,none)],b (a2 1 (aN 3 0) 2) (b4 (b3 2 1 (ad aw 3)) (ej dK 5 aC 6 5 7 0 zhi) (b7 3 2 (m 9 4)))⟩
def zop:Fun:=⟨1,2,0,false,[(1,none)],ei 1 (ev 0 (ef 119 c (U 192 [] [])) (ad bR 1) (m 2 2))⟩
def zbp:Fun:=⟨2,3,0,false,[(2,none)],eu 2 0 (aP 1 (ef 193 aJ c) (af .geq c 0 2)) (m 3 4)⟩
def zjx:Fun:=⟨1,3,0,false,[(2,none)],cX 1 5 0 2 M (aH (eG (aM 5 1) (bu 155) bR 2) (m 3 4))⟩
def zga:Cd:=bO 8 7 6 (dL 8 0 (m 15 2) 1 1 (b (eY 4 5 7 (dc 4) (dz 3 (cL aT) 4 3)) (c1 (ca (v 0 3) aC (v 1 3) aC (ec 1 0 (ed 0 []) 0 bQ [(1,c)]) (bu 152) bR au (eD 2 3 aC 1 (v 3 3) 2 (E aC 3) (er (bP 1 aT [] (dv aT [] []) 0 bQ [(1,c)]) 4 (bu 194) 5 bR 6 9 7))) 9 2 M (m 15 4))) 7 7)
def ze1:Cd:=cj (m 15 226) zga
def zgg:Cd:=bO 13 12 11 (dL 13 2 (m 15 2) 1 3 (b (eY 6 10 12 (dc 6) (dz 4 (eh 0) 6 4)) (c1 (eE (v 0 4) (v 1 4) aC (ca (v 2 4) aC (v 3 4) aC (ec 1 0 (ed 0 (ed 0 (ed 0 []))) 0 (.l 6) ((1,.l 4)::e4 (2,bQ) (3,c) [])) (bu 152) bR au (cE (b5 4 4) aC 1 (er (bP 1 aT [] [] 0 c []) 2 (bu 194) 3 bR 4 14 5)))) 14 2 M (m 15 4))) 12 12)
def ze3:Cd:=cj (m 15 7170) zgg
def zcU:Fun:=⟨1,15,0,false,[(2,none)],cX 1 5 0 2 M (J (ej (dm 0) 5 aC 6 5 7 0 ze1) (ej (dm 1) 10 aC 11 10 12 2 ze3) (aH (ca dK dq aC dK eF aC (ec 1 0 (ed 0 []) 0 dA [(1,c)]) (bu 152) (ea 2 1 (cm (ab (a5 2) 1) aC 2 (bP 1 aT [] [] 0 c []) 3 (bu 194) 4 (e3 5 2)))) (m 15 4)))⟩
def zdy:Cd:=bO 16 15 14 (dL 16 2 (m 19 1829) 2 3 (b (eY 4 13 15 (dc 4) (dz 6 (cL aT) 4 6)) (b (b3 2 6 (eC (v 1 2) aC 4 b2 aC (de 184 (.l 5)) bR au (eD 3 6 aC 1 aw 2 (E (v 2 6) 3) (er aC 4 aw 5 (ep 3) 6 17 7)))) (cG 17 1 5 (m 19 2)))) 15 15)
def zbL:Cd:=cB (m 19 59189) zdy
def zdu:Cd:=bO 11 10 9 (dL 11 0 (m 19 0) 1 1 (bl 10 (bV 5 8 10) (d2 (dc 5) 5 (aT::ey 0 0) (bT 4 dA (aV 5 5 bQ))) (J (bl 0 dt (eE (a5 6) (d 4) (d 4) (c9 (em 196 bQ aJ c []) 12)) (cG 12 1 5 (m 19 2))) (ej (v 0 5) 13 aC 14 13 15 2 zbL) (b (K (v 2 5) dq aC (cH 1) (c3 2 5 (bC dq 1 aC 2 (cH 3) 3 (dO 4) (ea 2 5 (bp (ab eF 1) aC 2 (e1 c 0) 3 (eR 18 4) []))))) (cG 18 1 5 (m 19 2))))) 10 10)
def zbs:Cd:=cj (m 19 1797) zdu
def zao:Fun:=⟨1,19,0,false,[(1,none)],bM (aY 1) (aG 0 (p dt dq (K (dc 3) (bu 98) au eQ (d2 eP 2 dY (cZ 2 2 bQ (h 3 bQ))))) (.seq (b (dh 3 7 (e1 c 0)) (cG 7 1 5 (m 19 2))) (dj 0 0 (dI 2) (K (dI 2) (cf 195 c (i 0)) (.nil (.l 4)) (a5 4) (a (aF 2 c (.l 4)) (q (.nil (.l 6))) (e7 (a5 6) (.l 5)))) (.seq (eT 0 (p dt dq (cM (a5 2) 8 aC 9 8 10)) 0 zbs) (di (aY 1) (m 19 2))))))⟩
def zdJ:Cd:=bO 9 8 7 (dL 9 0 (m 11 0) 1 1 (b (eY 5 6 8 (dc 5) (dT 3 aT (ey 0 0) 5 3)) (b (b3 0 3 (ad (ef 199 c (U 200 [] [])) 4)) (aG 4 (c3 1 3 (er aC 1 (eq 202 [] (.s 1) []) 2 (ef 201 aJ c) 3 10 4)) (cG 10 2 6 (m 11 4))))) 8 8)
def zbK:Cd:=cj (m 11 450) zdJ
def zan:Fun:=⟨1,11,0,false,[(2,none)],b (a2 1 (aN 1 0) 2) (J (bE (cC 1) (p dt dq (eE eF (bu 197) bR (cl (bH (cC 1)) (cE (E dt 1) dq 2 (er dq 3 aC 4 (ef 119 c (U 198 [] [])) 5 5 6))))) (cG 5 2 6 (m 11 4))) (ak (q (cC 1)) (p dt dq (cM (a5 2) 6 aC 7 6 8)) 0 zbK) (di (aY 2) (m 11 4)))⟩
def zcN:Cd:=bO 15 14 13 (dL 15 0 (m 30 2) 2 1 (aG 14 (eY 1 12 14 aC (dD 3 bQ 4)) (bm (q (cC 1)) (aP 3 (u .add c 1) (bd 4 (bu 205) (dn dg 0 1 (i (-1)) 1 1 0 [(2,2,c)]) (dW 204 (.l 5) dA [c]) [])))) 14 14)
def zaU:Cd:=cB (m 30 28674) zcN
def zcJ:Cd:=bO 23 22 21 (dL 23 4 (m 30 458850) 3 5 (b (eY 4 20 22 (dc 4) (dz 7 (cL aT) 4 7)) (b (eE (v 1 7) (el 1) au (eD 1 7 aC 1 (eb 1023) 2 (dO 3) (cl (bH (cC 1)) (cE (E (v 1 7) 1) aC 2 (bC (d 5) 3 (v 0 7) 4 aC 5 (E (bu 205) 6) (er (dn dg 0 1 dA 1 1 (-1) [(2,2,c)]) 7 (dW 204 (.l 7) (.l 5) [c]) 8 bR 9 24 10)))))) (cG 24 2 7 (m 30 4)))) 22 22)
def zaT:Cd:=dP (m 30 7798882) zcJ
def zcX:Cd:=bO 28 27 26 (dL 28 6 (m 30 458754) 3 7 (bl 27 (bV 6 25 27) (d2 (dc 6) 9 (eh 0) (bT 8 dA (aV 6 9 bQ))) (cY 6 9 (K (bu 206) au eQ eP (dD 10 aJ 11)) (aG 10 (cR (eb 0) (cm (b8 (cC 1)) (v 3 9) 1 aC 2 (d 5) 3 (cm (ab (d 8) 4) (d 10) 5 (d 11) 6 (cN bj 0 1 aJ 1 1 c []) 7 (bp (ab (cN dg 0 1 (.l 4) 1 1 dA [(2,2,c)]) 8) (dW 204 (.l 8) (.l 6) [c]) 9 bR 10 (eR 29 11) [])))) (cG 29 2 7 (m 30 4))))) 27 27)
def za1:Cd:=dP (m 30 235339810) zcX
def zcV:Cd:=bO 19 18 17 (dL 19 2 (m 30 2) 2 3 (bl 18 (bV 5 16 18) (d2 (dc 5) 6 (aT::ey 0 0) (bT 5 dA (aV 5 6 bQ))) (.seq (ej (v 0 6) 20 aC 21 20 22 4 zaT) (ej (v 1 6) 25 aC 26 25 27 6 za1))) 18 18)
def za2:Cd:=cB (m 30 458754) zcV
def zbd:Fun:=⟨1,30,2,false,[(2,none)],b (a2 1 (aN 1 0) 2) (bE (cC 1) (p .mkm (.nil aJ) (e7 (a5 7) bQ)) (J (ak (q (cC 1)) (p dt dq (cM dq 12 aC 13 12 14)) 0 zaU) (ak (q (cC 1)) (p dt dq (cM (a5 2) 16 aC 17 16 18)) 2 za2) (aH (eG (cC 1) (eq 208 [] (.s 1) []) (ef 207 aJ c) 2) (m 30 4))))⟩
def zdD:Fun:=⟨1,3,0,false,[(2,none)],b (a2 1 (aN 1 0) 2) (aH (eG (cC 1) (eq 209 [] (.s 1) []) (ef 207 aJ c) 2) (m 3 4))⟩
def zdL:Fun:=⟨1,3,0,false,[(2,none)],b (a2 1 (aN 1 0) 2) (aH (eG (cC 1) (eq 210 [] (.s 1) []) (ef 207 aJ c) 2) (m 3 4))⟩
def zc4:Cd:=bO 6 5 4 (dL 6 0 (m 8 0) 0 1 (b (bZ 5 3) (cs (d1 1 0 3 b2 (aI aC 7 (x .op (.l 4) c []))) 7 (b7 3 2 (m 8 4)))) 5 5)
def zbi:Cd:=cw (m 8 51) zc4
def zbA:Fun:=⟨2,8,0,false,[(2,none)],dG 2 (eT 0 (a2 4 aw 5) 0 zbi) (ds 2 (-1) (m 8 4))⟩
def z8:Fun:=⟨2,5,0,false,[(2,none)],ei 2 (J (ex 0 (dC 125 3) 3 2 M (m 5 4)) (c1 (dh 1 4 (cH 1)) 4 2 ar (m 5 4)) (cU 1 (cR (cH 2) (c6 1 (cH 4) 1 (cS 2 (c6 1 (cH 8) 1 (cS 2 (c6 1 (cH 16) 1 (cS 2 (et 0 (eb 1) 1 (eK 2 (cm (b9 0) (d 1) 1 (dk .mul 1) 2 (d5 c 128) 3 (e3 4 2))))))))))) (m 5 4)))⟩
def za7:Fun:=⟨1,10,0,false,[(2,none)],b4 (a2 1 (aN 6 0) 2) (ce (aI (dm 0) 3 aC) 0 (bg 3 0 4 (o 4 (di (aY 2) (m 10 4)) (.seq (ck 3 1 5 5 3 2 5 5 (ck 3 3 5 5 3 4 5 5 (ck 3 5 5 5 3 6 5 5 (ck 3 7 5 5 3 8 5 5 (ck 3 9 5 5 3 10 5 5 (ck 3 11 5 5 3 12 5 5 (c0 3 17 5))))))) (o 5 (ds 2 2 (m 10 4)) (.seq (ck 3 13 6 6 3 18 6 6 (c0 3 19 6)) (o 6 (ds 2 3 (m 10 4)) (d8 3 14 7 7 (ck 3 15 7 7 3 16 7 7 (c0 3 22 7)) (ez 7 (ds 2 1 (m 10 4)) 3 20 8 (ez 8 (ds 2 4 (m 10 4)) 3 21 9 (aQ 9 (q dK) (df 2) (m 10 4)))))))))))) (ds 2 (-1) (m 10 4))⟩
def zay:Fun:=⟨1,12,0,false,[(2,none)],cX 1 6 0 2 M (eL (dm 0) (df 3) (bl 3 (cH 4) (dd 3 (cE (E (eM c 10) 1) au 2 (aU (b9 3) (ab (d5 c 12) 1) (eI 2) 5 (dO 6) (dd 3 (a (E (cH 14) 1) (dO 2) (dd 3 (a (E (cH 15) 1) (dO 2) (dd 3 (cE (E (eM c 18) 1) au 2 (aU (b9 3) (ab (d5 c 20) 1) (eI 2) 5 (bU 4 6) [])))))))))) (ai 4 (cD 2 1 (aI aC 5 (e1 c 1)) (bq 5 2 M (m 12 4))))) (J (bl 3 (eM c 16) (ee 3 (a (ab (d5 c 19) 1) (eJ 2) (ea 1 1 (cT (dJ 1) (el 8) 2 (eK 3 (a0 (bL 3) (eM c 21) 1 au 2 (cx 2 1) (aU (dJ 1) (ab (el 2) 2) (eI 3) 6 (bU 6 7) []))))))) (bq 6 2 M (m 12 4))) (en 7 3 [] 0 (bg 7 0 8 (ez 8 (eN (dm 5) (p aC (dm 1) (K aC (de 224 bQ) (dm 5) aC (dl .eql 2 2))) (m 12 4)) 7 14 9 (ez 9 (eN (dm 5) (p aC (dm 1) (K aC dp (dX 3) au (cm (cx 5 1) aC 1 es 2 (bu 125) 3 (e3 4 2)))) (m 12 4)) 7 15 10 (ez 10 (aH (b3 5 1 (eE (dm 1) dp (dk .gtr 3) (ea 5 1 (cT (dJ 1) (eU .leq 64) 2 (eK 3 (cm (cx 5 1) aC 1 es 2 (bu 125) 3 (e3 4 2))))))) (m 12 4)) 7 22 11 (aQ 11 (q (dm 5)) (K aC dK aC dp (dl .lss 3 2)) (m 12 4))))))) (aH (b3 5 1 (ad (e8 0) 2)) (m 12 4))))⟩
end AC
