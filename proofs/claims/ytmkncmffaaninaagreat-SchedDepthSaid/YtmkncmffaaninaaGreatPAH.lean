/- A part of the proof of SchedDepth. Conditions: none. -/
import Derived.Test.YtmkncmffaaninaaGreatPAG
set_option linter.unusedVariables false
set_option linter.unusedSimpArgs false
set_option linter.unusedSectionVars false
open List renaming drop_eq_getElem_cons → ya,length_map → yb,length_append → yc,length_cons → yd,drop_length → yf,getElem_mem → yh,drop_zero → yi,replicate → yj,getD_eq_getElem?_getD → yl,append_assoc → yn,length_nil → yo,append_nil → yp,singleton_append → yq,map_nil → yr,take_of_length_le → ys,map_append → yu,take_succ_eq_append_getElem → yw,getElem?_eq_none → yx,length → yy,map → yz,count_cons_self → yA,foldl_cons → yB,map_cons → yC,getElem?_eq_getElem → yD,count_cons_of_ne → yE,getElem?_set_ne → yF,map_set → yG,map_replicate → yH,sum_cons → yI,flatMap_nil → yK,nil_append → yL,foldl_nil → yN,take_zero → yO,mem_cons → yP,mem_map → yR
open Int renaming natCast_zero → ye,lt_irrefl → yg,natCast_nonneg → yk,toNat_natCast → ym
open Nat renaming zero_add → yt,le_add_right → yv,add_assoc → yM,add_comm → yQ
open Bool renaming not_eq_true' → yJ
namespace AC
def tr (t : List Int) (a : Int) : Int:=t.getD a.toNat (-2)
def zX (t : List Int) : Nat → Int → Int → Option Int
 | 0,_,_ => none
 | r + 1,n,a => if a < 0 then some (-1) else if (t.length : Int) ≤ a then some (-1) else if tr t a = -1 then some n else zX t r (n + 1) (tr t a)
def zE (t : List Int) (a : Int) : Int:=(zX t t.length 0 a).getD (-1)
def zaD (t : List Int) : Nat → Nat → List Int → Option Nat
 | _,n,[] => some n
 | k,n,x :: r => if x = -2 then zaD t (k + 1) n r else if zE t k < 0 then none else zaD t (k + 1) (if x = -1 then n + 1 else n) r
def zgp (t : List Int) : Bool:=zaD t 0 0 t == some 1
def inS (t : List Int) (l : List Int) : Bool:=zgp t && !l.any fun a => decide (zE t a < 0)
def zit (t : List Int) : Nat → Int → Int → Int
 | 0,a,_ => a
 | r + 1,a,b => if a = b then a else if zE t b ≤ zE t a then zit t r (tr t a) b else zit t r a (tr t b)
def zwe (t : List Int) (a b : Int) : Int:=if inS t [a,b] = true then zit t (zE t a + zE t b).toNat a b else -2
def zkr (t : List Int) (a b : Int) : Bool:=inS t [a,b] && decide (zwe t a b = a)
def inR (n : Nat) (a : Int) : Bool:=decide (0 ≤ a) && decide (a < n)
def zpc (t at' : List Int) : Nat → Int → Int → Option Int
 | 0,_,_ => none
 | r + 1,a,b => if inR t.length a && (inR at'.length a && inR at'.length b) then (if tr at' b < tr at' a then zpc t at' r (tr t a) b else some a) else none
def ztx (t at' : List Int) (K : Nat) : Nat → Int → Int → Option Int
 | 0,_,_ => none
 | r + 1,a,b => if a = b then some a else match zpc t at' K a b with
   | none => none
   | some a' => match zpc t at' K b a' with
     | none => none
     | some b' => ztx t at' K r a' b'
def zma (t at' : List Int) (K : Nat) : List Int → Int → Option Int
 | [],b => some b
 | p :: r,b => if inR t.length p = true then (if tr t p = -2 then zma t at' K r b else if b = -2 then zma t at' K r p else match ztx t at' K K b p with
   | none => none
   | some c => zma t at' K r c) else none
def zrf (pred : List (List Int)) (t at' : List Int) (K : Nat) : List Int → Option (Option (Int × Int))
 | [] => some none
 | x :: r => if inR t.length x = true then (match zma t at' K (pred.getD x.toNat []) (-2) with
   | none => none
   | some b => if tr t x = b then zrf pred t at' K r else some (some (x,b))) else none
def zhb (pred : List (List Int)) (at' : List Int) (K : Nat) (tail : List Int) : Nat → List Int → Option (List Int)
 | 0,_ => none
 | r + 1,t => match zrf pred t at' K tail with
   | none => none
   | some none => some t
   | some (some (x,b)) => zhb pred at' K tail r (t.set x.toNat b)
theorem zkO {pred : List (List Int)} {at' : List Int} {K : Nat} {tail : List Int} : ∀ {r : Nat} {t t' : List Int},zhb pred at' K tail r t = some t' → t'.length = t.length
 | 0,_,_,h => by simp [zhb] at h
 | r + 1,t,t',h => by
   simp only [zhb] at h
   split at h
   ·cases h
   ·injection h with h; rw [h]
   ·rw [zkO h]; simp
def zjr : Nat → List Int → List Int → List Int
 | _,[],at' => at'
 | i,x :: r,at' => zjr (i + 1) r (at'.set x.toNat (i : Int))
theorem ziF : ∀ (l : List Int) (i : Nat) (a : List Int),(zjr i l a).length = a.length
 | [],_,_ => rfl
 | x :: r,i,a => by rw [zjr,ziF r]; simp
def zkt (n root : Nat) : List Int:=(yj n (-2 : Int)).set root root
def at0 (n : Nat) (order : List Int) : List Int:=zjr 0 order (yj n 0)
def scan (seen : List Bool) : List Int → Nat → Option (Int × Nat)
 | [],_ => none
 | y :: r,j => if seen.getD y.toNat false = true then scan seen r (j + 1) else some (y,j + 1)
structure DF where
 seen : List Bool
 next : List Nat
 out : List Int
 stk : List Int
def zwv (succ : List (List Int)) (x : Int) : Nat:=(succ.getD x.toNat []).length
def zf7 (succ : List (List Int)) (d : DF) (x : Int) : Option (Int × Nat):=scan d.seen ((succ.getD x.toNat []).drop (d.next.getD x.toNat 0)) (d.next.getD x.toNat 0)
def dfs (succ : List (List Int)) : Nat → DF → Option (List Int)
 | 0,_ => none
 | k + 1,d => match d.stk with
   | [] => none
   | x :: s => match zf7 succ d x with
     | some (y,j) => dfs succ k ⟨d.seen.set y.toNat true,d.next.set x.toNat j,d.out,y :: x :: s⟩
     | none => match s with
       | [] => some (d.out ++ [x])
       | _ :: _ => dfs succ k ⟨d.seen,d.next.set x.toNat (zwv succ x),d.out ++ [x],s⟩
structure DInv (succ : List (List Int)) (d : DF) : Prop where
 seen : d.seen.length = 64
 next : d.next.length = 64
 le : ∀ X,X < succ.length → d.next.getD X 0 ≤ (succ.getD X []).length
 stk : ∀ x ∈ d.stk,0 ≤ x ∧ x < (succ.length : Int)
theorem zyX {seen : List Bool} : ∀ {l : List Int} {k : Nat} {y : Int} {j : Nat},scan seen l k = some (y,j) → k < j ∧ j ≤ k + l.length ∧ y ∈ l
 | [],_,_,_,h => by simp [scan] at h
 | z :: r,k,y,j,h => by
   simp only [scan] at h
   split at h
   ·have:=zyX h
    simp only [yd,yP]
    exact ⟨by omega,by omega,.inr this.2.2⟩
   ·simp only [Option.some.injEq,Prod.mk.injEq] at h
    obtain ⟨rfl,rfl⟩:=h
    simp
def zpZ : List Bool:=yj 64 false
def znW : List Nat:=yj 64 0
def zsn (root : Int) : DF:=⟨zpZ.set root.toNat true,znW,[],[root]⟩
def ztm (i : Int) (out : List (List Int)) (x : Int) : List (List Int):=out.set x.toNat (out.getD x.toNat [] ++ [i])
theorem zfF (i : Int) (out : List (List Int)) (x : Int) : (ztm i out x).length = out.length:=by simp [ztm]
theorem zf2 (i : Int) : ∀ (l : List Int) (out : List (List Int)),(l.foldl (ztm i) out).length = out.length
 | [],_ => rfl
 | x :: r,out => by rw [yB,zf2 i r,zfF]
def za9 : Nat → List (List Int) → List (List Int) → List (List Int)
 | _,[],out => out
 | i,l :: r,out => za9 (i + 1) r (l.foldl (ztm i) out)
def zM (succ : List (List Int)) : List (List Int):=za9 0 succ (yj succ.length [])
theorem zgj : ∀ (l : List (List Int)) (i : Nat) (out : List (List Int)),(za9 i l out).length = out.length
 | [],_,_ => rfl
 | x :: r,i,out => by rw [za9,zgj r,zf2]
theorem zb5 (succ : List (List Int)) : (zM succ).length = succ.length:=by rw [zM,zgj]; simp
def zjv (succ : List (List Int)) : Prop:=succ.length ≤ 4294967296 ∧ ∀ l ∈ succ,l.length ≤ 4294967296
def zP (n : Int) : Int → List Int → Bool
 | _,[] => true
 | last,x :: r => if x ≤ last ∨ n ≤ x then false else zP n x r
def rising (l : List Int) (n : Int) : Bool:=zP n (-1) l
def zbk (succ : List (List Int)) : Bool:=!(decide (succ.length < 1) || (decide (64 < succ.length) || succ.any fun l => !rising l succ.length))
def zAp (succ pred : List (List Int)) : Bool:=zbk succ && decide (zM succ = pred)
def zlU (k : Int) : Int:=if k = 0 ∨ k = 3 then 0 else if k = 1 then 1 else if k = 2 then 2 else -1
def zku (n k : Int) : Bool:=decide (k < 1) || decide (n ≤ k)
theorem zbh {α : Type} {l : List α} {i : Nat} (v d : α) (h : i < l.length) : (l.set i v).getD i d = v:=by simp [h]
theorem getD_set_ne {α : Type} {l : List α} {i j : Nat} (v d : α) (h : i ≠ j) : (l.set i v).getD j d = l.getD j d:=by simp [yF h]
end AC
namespace AC
theorem zl6 (t : List Int) : ∀ (r : Nat) (n a m : Int),0 ≤ n → zX t r n a = some m → m = -1 ∨ n ≤ m
 | 0,_,_,_,_,h => by simp [zX] at h
 | r + 1,n,a,m,hn,h => by
   simp only [zX] at h
   split at h
   ·simp at h; omega
   split at h
   ·simp at h; omega
   split at h
   ·simp at h; omega
   ·have:=zl6 t r (n + 1) _ m (by omega) h
    omega
theorem zlz (t : List Int) : ∀ (r : Nat) (n a m : Int),0 ≤ n → 0 ≤ m → zX t r (n + 1) a = some m → zX t r n a = some (m - 1)
 | 0,_,_,_,_,_,h => by simp [zX] at h
 | r + 1,n,a,m,hn,hm,h => by
   simp only [zX] at h ⊢
   split at h
   ·simp at h; omega
   split at h
   ·simp at h; omega
   split at h
   ·rename_i h1 h2 h3
    simp only [h1,h2,h3,if_true,if_false,Option.some.injEq] at h ⊢
    omega
   ·rename_i h1 h2 h3
    simp only [h1,h2,h3,if_false]
    exact zlz t r (n + 1) _ m (by omega) hm h
theorem zmn (t : List Int) : ∀ (r : Nat) (n a m : Int),zX t r n a = some m → zX t (r + 1) n a = some m
 | 0,_,_,_,h => by simp [zX] at h
 | r + 1,n,a,m,h => by
   rw [zX] at h ⊢
   split at h
   ·rename_i h1; simp only [h1,if_true]; exact h
   split at h
   ·rename_i h1 h2; simp only [h1,h2,if_true,if_false]; exact h
   split at h
   ·rename_i h1 h2 h3; simp only [h1,h2,h3,if_true,if_false]; exact h
   ·rename_i h1 h2 h3
    simp only [h1,h2,h3,if_false]
    exact zmn t r (n + 1) _ m h
theorem zpl {t : List Int} {a : Int} (h : 0 ≤ zE t a) : zX t t.length 0 a = some (zE t a):=by
 unfold zE at h ⊢
 cases e : zX t t.length 0 a with
 | none => rw [e] at h; simp at h
 | some m => rfl
theorem zgZ {t : List Int} {a : Int} (h : 0 ≤ zE t a) : 0 ≤ a ∧ a < t.length:=by
 have:=zpl h
 cases ht : t.length with
 | zero => rw [ht] at this; simp [zX] at this
 | succ r =>
   rw [ht,zX] at this
   split at this
   ·simp at this; omega
   split at this
   ·simp at this; omega
   ·rename_i h1 h2
    rw [ht] at h2
    omega
theorem zj4 {t : List Int} {a : Int} (h0 : 0 ≤ a) (h1 : a < t.length) (h : tr t a = -1) : zE t a = 0:=by
 unfold zE
 cases ht : t.length with
 | zero => omega
 | succ r =>
   rw [zX,if_neg (by omega),if_neg (by omega),if_pos h]
   rfl
theorem zfe {t : List Int} {a : Int} (h : 0 ≤ zE t a) (hn : tr t a ≠ -1) : 1 ≤ zE t a ∧ zE t (tr t a) = zE t a - 1:=by
 have hs:=zpl h
 obtain ⟨h0,h1⟩:=zgZ h
 cases ht : t.length with
 | zero => omega
 | succ r =>
   rw [ht,zX,if_neg (by omega),if_neg (by omega),if_neg hn] at hs
   have h2:=zl6 t r (0 + 1) _ _ (by omega) hs
   have h3:=zmn t r _ _ _ (zlz t r 0 _ _ (by omega) h hs)
   refine ⟨by omega,?_⟩
   rw [← ht] at h3
   rw [zE,h3]
   rfl
theorem zg5 {t : List Int} {a : Int} (h : zE t a = 0) : tr t a = -1:=by
 by_cases c : tr t a = -1
 ·exact c
 ·have:=zfe (by omega) c
  omega
theorem zfp (t : List Int) : ∀ (l : List Int) (k n m : Nat),zaD t k n l = some m → m = n + l.count (-1)
 | [],_,_,_,h => by simp [zaD] at h; simp [h]
 | x :: r,k,n,m,h => by
   simp only [zaD] at h
   split at h
   ·rename_i hx
    subst hx
    rw [zfp t r _ _ _ h,yE (by decide)]
   split at h
   ·cases h
   ·split at h
    ·rename_i hx
     subst hx
     rw [zfp t r _ _ _ h,yA]
     omega
    ·rename_i hx
     rw [zfp t r _ _ _ h,yE (by simpa using hx)]
theorem ztA {x : Int} : ∀ (l : List Int),l.count x ≤ 1 → ∀ i j (hi : i < l.length) (hj : j < l.length),l[i] = x → l[j] = x → i = j
 | [],_,i,_,hi,_,_,_ => by simp at hi
 | y :: r,h,i,j,hi,hj,e1,e2 => by
   have pos : ∀ k (hk : k < r.length),r[k] = x → 1 ≤ r.count x:=fun k hk e => by
    have : x ∈ r:=by rw [← e]; exact yh hk
    exact List.count_pos_iff.2 this
   cases i with
   | zero =>
     cases j with
     | zero => rfl
     | succ j =>
       simp at e1 e2
       subst e1
       rw [yA] at h
       have:=pos j (by simpa using hj) e2
       omega
   | succ i =>
     cases j with
     | zero =>
       simp at e1 e2
       subst e2
       rw [yA] at h
       have:=pos i (by simpa using hi) e1
       omega
     | succ j =>
       have h' : r.count x ≤ 1:=by
        rw [List.count_cons] at h
        omega
       rw [ztA r h' i j (by simpa using hi) (by simpa using hj) (by simpa using e1) (by simpa using e2)]
theorem zsZ {t : List Int} (h : zgp t = true) {a b : Int} (ha : 0 ≤ a ∧ a < t.length) (hb : 0 ≤ b ∧ b < t.length) (ea : tr t a = -1) (eb : tr t b = -1) : a = b:=by
 have h1 : zaD t 0 0 t = some 1:=by simpa [zgp] using h
 have h2:=zfp t t 0 0 1 h1
 have ha' : a.toNat < t.length:=by omega
 have hb' : b.toNat < t.length:=by omega
 have:=ztA t (x:=-1) (by omega) a.toNat b.toNat ha' hb' (by simpa [tr,ha'] using ea) (by simpa [tr,hb'] using eb)
 omega
theorem zDa {t : List Int} {a b : Int} (h : inS t [a,b] = true) : zgp t = true ∧ 0 ≤ zE t a ∧ 0 ≤ zE t b:=by
 simp [inS] at h
 exact ⟨h.1,by omega,by omega⟩
end AC
namespace AC
open Go Go.A Go.A.Lex
@[go_sem] theorem zxU (k : Int) : call T 143 [vI k] [] = some (vI (zlU k),[]):=by
  rw [ze (fn:=zfg) rfl]
  by_cases c0 : k = 0
  ·simp -implicitDefEqProofs only [go_sem,zfg,zlU,c0]
  by_cases c3 : k = 3
  ·simp -implicitDefEqProofs only [go_sem,zfg,zlU,c0,c3]
  by_cases c1 : k = 1
  ·simp -implicitDefEqProofs only [go_sem,zfg,zlU,c0,c3,c1]
  by_cases c2 : k = 2 <;> simp -implicitDefEqProofs only [go_sem,zfg,zlU,c0,c3,c1,c2]
theorem zuc (l : List Int) (n : Int) (hl : l.length ≤ 4294967296) : ∀ (d k : Nat) (last : Int) (a0 a2 a4 a8 a9 : V),l.length - k = d → k ≤ l.length →
  exec T zfx ⟨[a0,vI n,a2,vI last,a4,vIs l,vI l.length,vI k,a8,a9],[],0,0⟩ =
   some (if zP n last (l.drop k) = true then (.exit 0,⟨[vU,vU,vU,vU,vU,vU,vU,vU,vU,vU],[],0,0⟩) else (.ret,⟨[vU,vU,vB false,vU,vU,vU,vU,vU,vU,vU],[],0,0⟩)):=by
 intro d
 induction d with
 | zero =>
   intro k last a0 a2 a4 a8 a9 h1 h2
   have hk : k = l.length:=by omega
   subst hk
   rw [xl zfx rfl,zgJ]
   simp -implicitDefEqProofs only [go_sem,yg,yf,zP]
 | succ d ih =>
   intro k last a0 a2 a4 a8 a9 h1 h2
   have hk : k < l.length:=by omega
   have hd : l.drop k = l[k] :: l.drop (k + 1):=ya hk
   rw [xl zfx rfl,zgJ,hd]
   by_cases c1 : l[k] ≤ last
   ·simp -implicitDefEqProofs only [go_sem,ilt hk,zp hk,ri,c1,zP]
   ·by_cases c2 : n ≤ l[k]
    ·simp -implicitDefEqProofs only [go_sem,ilt hk,zp hk,ri,c1,c2,zP]
    ·simp -implicitDefEqProofs only [go_sem,ilt hk,zp hk,ri,c1,c2,zP,za hk hl]
     exact ih (k + 1) l[k] _ _ _ _ _ (by omega) (by omega)
@[go_sem] theorem zm3 (l : List Int) (n : Int) (hl : l.length ≤ 4294967296) : call T 180 [vIs l,vI n] [] = some (vB (rising l n),[]):=by
  rw [ze (fn:=zhG) rfl]
  have h:=fun a0 a2 a4 a8 a9 => zuc l n hl l.length 0 (-1) a0 a2 a4 a8 a9 (by omega) (by omega)
  simp only [yi,ye] at h
  cases ha : zP n (-1) l <;> simp -implicitDefEqProofs only [go_sem,ha] at h <;> simp -implicitDefEqProofs only [go_sem,zhG,rising,h,ha]
theorem zp4 (l m : List Int) (hn : l.length = m.length) (hl : l.length ≤ 4294967296) (σ : zd) : ∀ (d k : Nat) (a2 a3 a4 a7 a8 : V),l.length - k = d → k ≤ l.length →
  exec T zdd ⟨[vIs l,vIs m,a2,a3,a4,vI l.length,vI k,a7,a8],σ,σ.length,σ.length⟩ =
   some (if l.drop k = m.drop k then (.exit 0,⟨[vU,vU,vU,vU,vU,vU,vU,vU,vU],σ,σ.length,σ.length⟩) else (.ret,⟨[vU,vU,vB false,vU,vU,vU,vU,vU,vU],σ,σ.length,σ.length⟩)):=by
 intro d
 induction d with
 | zero =>
   intro k a2 a3 a4 a7 a8 h1 h2
   have hk : k = l.length:=by omega
   subst hk
   have e : m.drop l.length = []:=by simp [hn]
   rw [xl zdd rfl,ze8,e]
   simp -implicitDefEqProofs only [go_sem,yg,yf]
 | succ d ih =>
   intro k a2 a3 a4 a7 a8 h1 h2
   have hk : k < l.length:=by omega
   have hk2 : k < m.length:=by omega
   have hd : l.drop k = l[k] :: l.drop (k + 1):=ya hk
   have hd2 : m.drop k = m[k] :: m.drop (k + 1):=ya hk2
   rw [xl zdd rfl,ze8,hd,hd2]
   by_cases c1 : l[k] = m[k]
   ·simp -implicitDefEqProofs only [go_sem,ilt hk,zp hk,zp hk2,ri,c1,za hk hl,List.cons.injEq]
    exact ih (k + 1) _ _ _ _ _ (by omega) (by omega)
   ·simp -implicitDefEqProofs only [go_sem,ilt hk,zp hk,zp hk2,ri,c1,List.cons.injEq,false_and]
@[go_sem] theorem zkA (l m : List Int) (σ : zd) (hl : l.length ≤ 4294967296) : call T 184 [vIs l,vIs m] σ = some (vB (decide (l = m)),σ):=by
  rw [ze (fn:=zbR) rfl]
  by_cases hn : l.length = m.length
  ·have h:=fun a2 a3 a4 a7 a8 => zp4 l m hn hl σ l.length 0 a2 a3 a4 a7 a8 (by omega) (by omega)
   have hz : ((l.length : Int) = (m.length : Int)) = True:=by simp [hn]
   simp only [yi,ye] at h
   by_cases he : l = m
   ·subst he
    simp -implicitDefEqProofs only [go_sem] at h
    simp -implicitDefEqProofs only [go_sem,zbR,h]
   ·simp -implicitDefEqProofs only [go_sem,he] at h
    simp -implicitDefEqProofs only [go_sem,zbR,h,he,hz]
  ·have he : ¬ l = m:=fun h => hn (by rw [h])
   have hn' : ¬ (l.length : Int) = (m.length : Int):=by omega
   simp -implicitDefEqProofs only [go_sem,zbR,hn',he]
theorem zpJ (l m : List (List Int)) (hn : l.length = m.length) (hl : l.length ≤ 4294967296) (hls : ∀ x ∈ l,x.length ≤ 4294967296) (σ : zd) : ∀ (d k : Nat) (a0 a3 a4 a5 a6 a7 a11 a12 : V),l.length - k = d → k ≤ l.length →
  exec T zaZ ⟨[a0,vLs m,vFn 184 [],a3,a4,a5,a6,a7,vLs l,vI l.length,vI k,a11,a12],σ,σ.length,σ.length⟩ =
   some (if l.drop k = m.drop k then (.exit 0,⟨[vU,vU,vU,vU,vU,vU,vU,vU,vU,vU,vU,vU,vU],σ,σ.length,σ.length⟩) else (.ret,⟨[vU,vU,vU,vB false,vU,vU,vU,vU,vU,vU,vU,vU,vU],σ,σ.length,σ.length⟩)):=by
 intro d
 induction d with
 | zero =>
   intro k a0 a3 a4 a5 a6 a7 a11 a12 h1 h2
   have hk : k = l.length:=by omega
   subst hk
   have e : m.drop l.length = []:=by simp [hn]
   rw [xl zaZ rfl,zcY,e]
   simp -implicitDefEqProofs only [go_sem,yg,yf]
 | succ d ih =>
   intro k a0 a3 a4 a5 a6 a7 a11 a12 h1 h2
   have hk : k < l.length:=by omega
   have hk2 : k < m.length:=by omega
   have hd : l.drop k = l[k] :: l.drop (k + 1):=ya hk
   have hd2 : m.drop k = m[k] :: m.drop (k + 1):=ya hk2
   have hc:=zkA l[k] m[k] σ (hls _ (yh hk))
   rw [xl zaZ rfl,zcY,hd,hd2]
   by_cases c1 : l[k] = m[k]
   ·simp -implicitDefEqProofs only [go_sem,c1] at hc
    simp -implicitDefEqProofs only [go_sem,ilt hk,zp hk,zp hk2,rl,c1,hc,za hk hl,List.cons.injEq]
    exact ih (k + 1) _ _ _ _ _ _ _ _ (by omega) (by omega)
   ·simp -implicitDefEqProofs only [go_sem,c1] at hc
    simp -implicitDefEqProofs only [go_sem,ilt hk,zp hk,zp hk2,rl,c1,hc,List.cons.injEq,false_and]
@[go_sem] theorem zle (l m : List (List Int)) (σ : zd) (hl : l.length ≤ 4294967296) (hls : ∀ x ∈ l,x.length ≤ 4294967296) : call T 183 [vLs l,vLs m,vFn 184 []] σ = some (vB (decide (l = m)),σ):=by
  rw [ze (fn:=zar) rfl]
  by_cases hn : l.length = m.length
  ·have h:=fun a0 a3 a4 a5 a6 a7 a11 a12 => zpJ l m hn hl hls σ l.length 0 a0 a3 a4 a5 a6 a7 a11 a12 (by omega) (by omega)
   have hz : ((l.length : Int) = (m.length : Int)) = True:=by simp [hn]
   simp only [yi,ye] at h
   by_cases he : l = m
   ·subst he
    simp -implicitDefEqProofs only [go_sem] at h
    simp -implicitDefEqProofs only [go_sem,zar,h]
   ·simp -implicitDefEqProofs only [go_sem,he] at h
    simp -implicitDefEqProofs only [go_sem,zar,h,he,hz]
  ·have he : ¬ l = m:=fun h => hn (by rw [h])
   have hn' : ¬ (l.length : Int) = (m.length : Int):=by omega
   simp -implicitDefEqProofs only [go_sem,zar,hn',he]
end AC
namespace AC
open Go Go.A Go.A.Lex
def apR : Nat → List (List Int) → List (List C)
 | _,[] => []
 | q,l :: r => [.ap 0 q (l.map ri)] :: apR (q + 1) r
theorem zhY : ∀ (out : List (List Int)) (q : Nat),(apR q out).length = out.length
 | [],_ => rfl
 | l :: r,q => by simp [apR,zhY r (q + 1)]
theorem zu0 : ∀ (out : List (List Int)) (q k : Nat) (h : k < out.length),(apR q out)[k]? = some [.ap 0 (q + k) (out[k].map ri)]
 | [],_,_,h => by simp at h
 | l :: r,q,0,_ => by simp [apR]
 | l :: r,q,k + 1,h => by
   simp only [apR,List.getElem?_cons_succ,List.getElem_cons_succ]
   rw [zu0 r (q + 1) k (by simpa using h),yM,yQ 1 k]
theorem zyT : ∀ (out : List (List Int)) (q k : Nat) (l : List Int),(apR q out).set k [.ap 0 (q + k) (l.map ri)] = apR q (out.set k l)
 | [],_,_,_ => rfl
 | x :: r,q,0,l => by simp [apR]
 | x :: r,q,k + 1,l => by
   simp only [apR,List.set_cons_succ]
   rw [← zyT r (q + 1) k l,yM,yQ 1 k]
theorem zz3 : ∀ (out : List (List Int)) (q : Nat),zaq (apR q out) = some (out.map rl)
 | [],_ => rfl
 | x :: r,q => by simp [apR,zaq,zdo,zui,zfO,zz3 r (q + 1),rl]
theorem zC8 (n : Nat) : (List.range n).map (nest 0 [.f (.sl [])] 0) = apR 0 (yj n []):=by
 apply List.ext_getElem?
 intro k
 by_cases hk : k < n
 ·rw [zu0 _ _ _ (by simpa using hk)]
  simp [hk,nest]
 ·rw [yx (by simp; omega),yx (by rw [zhY]; simp; omega)]
theorem zyH {i : Int} {out : List (List Int)} {x : Int} {B : Nat} (h : ∀ y ∈ out,y.length ≤ B) : ∀ y ∈ ztm i out x,y.length ≤ B + 1:=by
 intro y hy
 rcases List.mem_or_eq_of_mem_set hy with h1 | h1
 ·have:=h y h1
  omega
 ·subst h1
  simp only [yc,yd,yo,yl]
  cases e : out[x.toNat]? with
  | none => simp
  | some z =>
    have:=h z (List.mem_of_getElem? e)
    simp
    omega
theorem zq1 (i : Int) : ∀ (l : List Int) (out : List (List Int)) (B : Nat),(∀ y ∈ out,y.length ≤ B) → ∀ y ∈ l.foldl (ztm i) out,y.length ≤ B + l.length
 | [],_,_,h => h
 | x :: r,out,B,h => fun y hy => by
   have:=zq1 i r (ztm i out x) (B + 1) (zyH h) y hy
   simp only [yd]
   omega
abbrev pst (out : List (List Int)) : zd:=[.tok 1 (out.map yy),.cells 0 1 (apR 0 out)]
theorem zCe (succ : List (List Int)) (i n : Nat) (l : List Int) (hl : l.length ≤ 4294967296) (hx : ∀ x ∈ l,0 ≤ x ∧ x < n) : ∀ (d k : Nat) (out : List (List Int)) (B : Nat) (a0 a1 a4 a5 a9 a13 : V),l.length - k = d → k ≤ l.length → out.length = n →
  (∀ y ∈ out,y.length ≤ B) → B + d ≤ 4294967296 →
  exec T zfW ⟨[a0,a1,.one (.own 1 0 0 n),vI i,a4,a5,vLs succ,vI succ.length,vI i,a9,vIs l,vI l.length,vI k,a13],pst out,0,0⟩ =
   some (.exit 2,⟨[vU,vU,.one (.own 1 0 0 n),vU,vU,vU,vLs succ,vI succ.length,vI i,vU,vU,vU,vU,vU],pst ((l.drop k).foldl (ztm i) out),0,0⟩):=by
 intro d
 induction d with
 | zero =>
   intro k out B a0 a1 a4 a5 a9 a13 h1 h2 ho hb hB
   have hk : k = l.length:=by omega
   subst hk
   rw [xl zfW rfl,zhH]
   simp -implicitDefEqProofs only [go_sem,yg,yf,yN]
 | succ d ih =>
   intro k out B a0 a1 a4 a5 a9 a13 h1 h2 ho hb hB
   have hk : k < l.length:=by omega
   have hd : l.drop k = l[k] :: l.drop (k + 1):=ya hk
   obtain ⟨x0,x1⟩:=hx _ (yh hk)
   generalize hxe : l[k] = x at *
   obtain ⟨j,rfl⟩ : ∃ j : Nat,x = j:=⟨x.toNat,by omega⟩
   have hj : j < out.length:=by omega
   have hjn : ((j : Int) < (n : Int)) = True:=by simp; omega
   have hg:=zu0 out 0 j hj
   have hs:=fun m => zyT out 0 j m
   simp only [yt] at hg hs
   have hf : (out.map yy)[j]? = some out[j].length:=by simp [hj]
   have hlim : out[j].length + 1 ≤ LIM:=by
    have:=hb _ (yh hj)
    unfold LIM
    omega
   have hadd : ztm i out j = out.set j (out[j] ++ [(i : Int)]):=by simp [ztm,hj]
   have hkr : (l.map ri)[k]? = some (ri (j : Int)):=by rw [zp hk,hxe]
   rw [xl zfW rfl,zhH,hd,yB]
   simp -implicitDefEqProofs only [go_sem,ilt hk,hkr,ri,x0,hjn,ym,hg,hf,hlim,zhY,yu,yG]
   have e1 : yz ri out[j] ++ [[Fz.lit (Value.int .i64 (i : Int))]] = yz ri (out[j] ++ [(i : Int)]):=by simp [ri]
   rw [e1]
   simp -implicitDefEqProofs only [go_sem,hs,zhY,za hk hl,hg]
   have hB' : ∀ y ∈ out.set j (out[j] ++ [(i : Int)]),y.length ≤ B + 1:=by
    rw [← hadd]
    exact zyH hb
   have:=ih (k + 1) (out.set j (out[j] ++ [(i : Int)])) (B + 1) vU vU vU vU vU vU (by omega) (by omega) (by simpa using ho) hB' (by omega)
   rw [hadd]
   simp -implicitDefEqProofs only [go_sem,pst,yG] at this ⊢
   exact this
theorem zBv (succ : List (List Int)) (hs : succ.length ≤ 4294967296) (hl : ∀ l ∈ succ,l.length ≤ 4294967296) (hx : ∀ l ∈ succ,∀ x ∈ l,0 ≤ x ∧ x < succ.length) : ∀ (d k : Nat) (out : List (List Int)) (B : Nat) (a0 a1 a3 a4 a5 a9 a10 a11 a12 a13 : V),succ.length - k = d → k ≤ succ.length → out.length = succ.length →
  (∀ y ∈ out,y.length ≤ B) → B + ((succ.drop k).map yy).sum ≤ 4294967296 →
  exec T zfQ ⟨[a0,a1,.one (.own 1 0 0 succ.length),a3,a4,a5,vLs succ,vI succ.length,vI k,a9,a10,a11,a12,a13],pst out,0,0⟩ =
   some (.exit 0,⟨[vU,vU,.one (.own 1 0 0 succ.length),vU,vU,vU,vU,vU,vU,vU,vU,vU,vU,vU],pst (za9 k (succ.drop k) out),0,0⟩):=by
 intro d
 induction d with
 | zero =>
   intro k out B a0 a1 a3 a4 a5 a9 a10 a11 a12 a13 h1 h2 ho hb hB
   have hk : k = succ.length:=by omega
   subst hk
   rw [xl zfQ rfl,zhL]
   simp -implicitDefEqProofs only [go_sem,yg,yf,za9]
 | succ d ih =>
   intro k out B a0 a1 a3 a4 a5 a9 a10 a11 a12 a13 h1 h2 ho hb hB
   have hk : k < succ.length:=by omega
   have hd : succ.drop k = succ[k] :: succ.drop (k + 1):=ya hk
   have hm:=yh hk
   rw [hd,yC,yI] at hB
   have h0:=fun a0 a1 a4 a5 a9 a13 => zCe succ k succ.length succ[k] (hl _ hm) (hx _ hm) succ[k].length 0 out B a0 a1 a4 a5 a9 a13 (by omega) (by omega) ho hb (by omega)
   have:=ih (k + 1) (succ[k].foldl (ztm k) out) (B + succ[k].length) vU vU vU vU vU vU vU vU vU vU (by omega) (by omega) (by rw [zf2,ho]) (zq1 _ _ _ _ hb) (by omega)
   rw [xl zfQ rfl,zhL,hd,za9]
   simp -implicitDefEqProofs only [go_sem,pst,yi,ye] at h0 this
   simp -implicitDefEqProofs only [go_sem,ilt hk,zp hk,rl,pst,h0,za hk hs]
   exact this
theorem zwP (succ : List (List Int)) (hs : succ.length ≤ 4294967296) (hl : ∀ l ∈ succ,l.length ≤ 4294967296) (hx : ∀ l ∈ succ,∀ x ∈ l,0 ≤ x ∧ x < succ.length) (ht : (succ.map yy).sum ≤ 4294967296) :
  call T 182 [vLs succ] [] = some (vLs (zM succ),[]):=by
 rw [ze (fn:=ziv) rfl]
 have h:=fun a0 a1 a3 a4 a5 a9 a10 a11 a12 a13 => zBv succ hs hl hx succ.length 0 (yj succ.length []) 0 a0 a1 a3 a4 a5 a9 a10 a11 a12 a13 (by omega) (by omega) (by simp) (fun y hy => by rw [(List.mem_replicate.1 hy).2]; simp) (by simpa using ht)
 have hlen : (apR 0 (za9 0 succ (yj succ.length []))).length = succ.length:=by rw [zhY,zgj]; simp
 have hlim : (succ.length : Int) ≤ (LIM : Int):=by unfold LIM; omega
 have htk : (apR 0 (za9 0 succ (yj succ.length []))).take succ.length = apR 0 (za9 0 succ (yj succ.length [])):=ys (by omega)
 simp -implicitDefEqProofs only [go_sem,pst,yi,ye,yH] at h
 simp -implicitDefEqProofs only [go_sem,ziv,hlim,zC8,h,yk,ym,htk,zz3,zM]
end AC
namespace AC
open Go Go.A Go.A.Lex
theorem zlH {f : Nat} {g : List V → zd → Option (V × zd)} (h : T f = some (.ext g)) (args : List V) (σ : zd) : call T f args σ = g args σ:=by
 simp only [call,zfy,h]
theorem zup (l : List Int) : znw 1 (l.map ri) = true:=by
 induction l with
 | nil => rfl
 | cons x r ih => simp [znw,ri,ih]
@[go_sem] theorem zp2 (l : List Int) (hl : l.length ≤ 4294967296) : call T 181 [vIs l] [] = some (vIs l,[]):=by
  rw [zlH (g:=zh3 1) rfl]
  simp [zh3,zog,zup,LIM,hl]
theorem zmy (l : List Int) (n : Int) (hl : l.length ≤ 4294967296) (o : Ob) (r : zd) : call T 179 [vIs l,.one (.ptr 1 0 0 0)] (o :: .cells 0 1 [[.f (ei n)]] :: r) = some (vB (!rising l n),o :: .cells 0 1 [[.f (ei n)]] :: r):=by
 rw [ze (fn:=zhB) rfl]
 have h:=zm3 l n hl
 simp -implicitDefEqProofs only [go_sem] at h
 simp -implicitDefEqProofs only [go_sem,zhB,h]
theorem zmZ (n : Int) : ∀ (l : List Int) (last : Int),zP n last l = true → ∀ x ∈ l,last < x ∧ x < n
 | [],_,_,x,h => by simp at h
 | y :: r,last,h,x,hx => by
   simp only [zP] at h
   split at h
   ·cases h
   ·rename_i hc
    rcases yP.1 hx with rfl | hx
    ·omega
    ·have:=zmZ n r y h x hx
     omega
theorem zqi (n : Int) : ∀ (l : List Int) (last : Int),zP n last l = true → -1 ≤ last → last < n → (l.length : Int) ≤ n - last - 1
 | [],last,_,h1,h2 => by simp; omega
 | y :: r,last,h,h1,h2 => by
   simp only [zP] at h
   split at h
   ·cases h
   ·rename_i hc
    have:=zqi n r y h (by omega) (by omega)
    simp only [yd]
    omega
theorem zfZ {succ : List (List Int)} (h : zbk succ = true) : 1 ≤ succ.length ∧ succ.length ≤ 64 ∧ ∀ l ∈ succ,rising l succ.length = true:=by
 simp only [zbk,yJ,Bool.or_eq_false_iff,decide_eq_false_iff_not,List.any_eq_false,yJ,Bool.not_eq_false] at h
 exact ⟨by omega,by omega,fun l hl => by simpa using h.2.2 l hl⟩
theorem zqh (B : Nat) : ∀ l : List Nat,(∀ x ∈ l,x ≤ B) → l.sum ≤ B * l.length
 | [],_ => by simp
 | x :: r,h => by
   have h1:=h x (by simp)
   have h2:=zqh B r fun y hy => h y (by simp [hy])
   simp only [yI,yd,Nat.mul_add]
   omega
theorem zyq (succ : List (List Int)) (hs : zjv succ) (hn : succ.length ≤ 64) (o0 o1 : Ob) (hlt0 : o0.lt 3 = true) (hlt1 : o1.lt 3 = true) : ∀ (d k : Nat) (a0 a2 a3 a5 a6 a10 : V),succ.length - k = d → k ≤ succ.length →
  exec T zgv ⟨[a0,.one (.ptr 0 0 0 0),a2,a3,.one (.ap 2 0 ((succ.take k).map rl)),a5,a6,vLs succ,vI succ.length,vI k,a10],[o0,o1,.tok 1 [k]],0,0⟩ =
   some (.exit 0,⟨[vU,.one (.ptr 0 0 0 0),vU,vU,.one (.ap 2 0 (succ.map rl)),vU,vU,vU,vU,vU,vU],[o0,o1,.tok 1 [succ.length]],0,0⟩):=by
 intro d
 induction d with
 | zero =>
   intro k a0 a2 a3 a5 a6 a10 h1 h2
   have hk : k = succ.length:=by omega
   subst hk
   rw [xl zgv rfl,ziO]
   simp -implicitDefEqProofs only [go_sem,yg,List.take_length]
 | succ d ih =>
   intro k a0 a2 a3 a5 a6 a10 h1 h2
   have hk : k < succ.length:=by omega
   have hc:=zp2 succ[k] (hs.2 _ (yh hk))
   have hlt : (succ.take k).length = k:=by simp; omega
   have hlim : k + 1 ≤ LIM:=by unfold LIM; omega
   have e : (succ.take k).map rl ++ [[Fz.sl (succ[k].map ri)]] = (succ.take (k + 1)).map rl:=by
    rw [yw hk,yu]
    rfl
   rw [xl zgv rfl,ziO]
   simp -implicitDefEqProofs only [go_sem] at hc
   simp -implicitDefEqProofs only [go_sem,ilt hk,zp hk,rl,hc,hlt,hlim,za hk hs.1]
   have:=ih (k + 1) vU vU vU vU vU vU (by omega) (by omega)
   rw [← e] at this
   simp -implicitDefEqProofs only [go_sem] at this
   exact this
def zjf (succ : List (List Int)) : V:=if zbk succ = true then .tup [.agg [.f (.sl (succ.map rl)),.f (.sl ((zM succ).map rl))],vI 0] else .tup [.agg [.f (.sl []),.f (.sl [])],vI 5]
theorem zgA {succ : List (List Int)} (h : zbk succ = true) : (succ.map yy).sum ≤ 4294967296:=by
 obtain ⟨h1,h2,h3⟩:=zfZ h
 have:=zqh 64 (succ.map yy) (fun x hx => by
  obtain ⟨l,hl,rfl⟩:=yR.1 hx
  have:=zqi _ _ _ (h3 l hl) (by omega) (by omega)
  omega)
 rw [yb] at this
 have h4 : 64 * succ.length ≤ 64 * 64:=Nat.mul_le_mul_left _ h2
 omega
@[go_sem] theorem zjI (succ : List (List Int)) (hs : zjv succ) : call T 147 [vLs succ] [] = some (zjf succ,[]):=by
  rw [ze (fn:=zfk) rfl]
  have hcf:=zi8 succ (fun l => !rising l succ.length) 179 [] [.ptr 1 0 0 0] [.cells 0 2 [[.f (.sl []),.f (.sl [])]],.cells 0 1 [[.f (ei succ.length)]]] hs.1 (fun x hx => zmy x _ (hs.2 x hx) _ _)
  simp -implicitDefEqProofs only [go_sem] at hcf
  by_cases c1 : succ.length < 1
  ·have c1' : (succ.length : Int) < 1:=by omega
   simp -implicitDefEqProofs only [go_sem,zfk,zjf,zbk,c1,c1']
  have c1' : ¬ (succ.length : Int) < 1:=by omega
  by_cases c2 : 64 < succ.length
  ·have c2' : (64 : Int) < (succ.length : Int):=by omega
   simp -implicitDefEqProofs only [go_sem,zfk,zjf,zbk,c1,c1',c2,c2']
  have c2' : ¬ (64 : Int) < (succ.length : Int):=by omega
  cases c3 : succ.any fun l => !rising l succ.length
  ·have hok : zbk succ = true:=by simp [zbk,c1,c2,c3]
   obtain ⟨q1,q2,q3⟩:=zfZ hok
   have hl:=fun a0 a2 a3 a5 a6 a10 => zyq succ hs q2 (.cells 0 2 [[.f (.sl []),.f (.sl [])]]) (.cells 0 1 [[.f (ei succ.length)]]) rfl rfl succ.length 0 a0 a2 a3 a5 a6 a10 (by omega) (by omega)
   have hp:=zwP succ hs.1 hs.2 (fun l hl x hx => by have:=zmZ _ _ _ (q3 l hl) x hx; omega) (zgA hok)
   have hlim : (succ.length : Int) ≤ (LIM : Int):=by unfold LIM; omega
   simp -implicitDefEqProofs only [go_sem,yO,ye] at hl hp
   simp -implicitDefEqProofs only [go_sem,zfk,c1',c2',hcf,c3,hlim,yk,hl,hp,zjf,hok]
  ·simp -implicitDefEqProofs only [go_sem,zfk,zjf,zbk,c1,c1',c2,c2',hcf,c3]
end AC
namespace AC
open Go Go.A Go.A.Lex
theorem zkq (l : List Int) : zgi (l.map ri) = some l:=by
 induction l with
 | nil => rfl
 | cons x r ih => simp [zgi,zvh,ri,zfO,ih]
theorem zdh (l : List Int) : zaq (l.map zj) = some (l.map ri):=by
 induction l with
 | nil => rfl
 | cons x r ih => simp [zaq,zdo,zui,zj,zfO,ih,ri]
theorem zt5 (l : List Int) (hl : l.length ≤ 4294967296) (σ : zd) (id : Nat) (hσ : σ[id]? = some (.cells 0 1 [[.f (.sl (l.map ri))]])) :
  call T 145 [.one (.fn 177 [] [.ptr id 0 0 0])] σ = some (.one (.own σ.length 0 0 l.length),σ ++ [.cells 0 1 ((zbX l).map zj)]):=by
 rw [zlH (g:=zgT 177) rfl]
 simp [zgT,zd.cell,zd.elem,hσ,Ob.elem,zl3,zkq,zmq,LIM,hl]
theorem zso (l : List Int) (n : Nat) (hn : l.length = n) (hl : n ≤ 4294967296) (σ : zd) (id : Nat) (hσ : σ[id]? = some (.cells 0 1 (l.map zj))) :
  call T 118 [.one (.own id 0 0 n)] σ = some (vIs (zl l),σ.set id (.cells 1 1 [])):=by
 rw [zlH (g:=zfl) rfl]
 subst hn
 simp [zfl,hσ,zhO,LIM,hl,zdh,zkq,zkn,vsl]
 exact fun _ _ => rfl
@[go_sem] theorem zuy (l : List Int) : call T 146 [vIs l] [] = some (.one (.fn 177 [] [.ptr 0 0 0 0]),[.cells 0 1 [[.f (.sl (l.map ri))]]]):=by
  rw [ze (fn:=zfa) rfl]
  simp -implicitDefEqProofs only [go_sem,zfa]
theorem zns (l : List Int) : (zbX l).length = l.length:=List.length_mergeSort l
theorem zph (k n : Int) (o0 o1 : Ob) (r : zd) : call T 144 [vI k,.one (.ptr 2 0 0 0)] (o0 :: o1 :: .cells 0 1 [[.f (ei n)]] :: r) = some (vB (zku n k),o0 :: o1 :: .cells 0 1 [[.f (ei n)]] :: r):=by
 rw [ze (fn:=zhr) rfl]
 by_cases c : k < 1
 ·simp -implicitDefEqProofs only [go_sem,zhr,zku,c]
 ·by_cases d : n ≤ k <;> simp -implicitDefEqProofs only [go_sem,zhr,zku,c,d]
def zih (n : Nat) (b : PBlock) : Bool:=decide (zlU b.kind = b.to.length) && !b.to.any (zku n)
def zij (n : Nat) : Nat → List PBlock → Option (Nat × PBlock)
 | _,[] => none
 | k,b :: r => if zih n b = true then zij n (k + 1) r else some (k,b)
def ztg (l : List Int) : List Int:=zl (zbX l)
def zm (f : PFunc) : List (List Int):=f.blocks.map fun b => ztg b.to
theorem zCA (f : PFunc) (hf : okF f) (hn : f.blocks.length ≤ 64) : ∀ (d k : Nat) (a0 a1 a3 a6 a7 a11 a12 : V),f.blocks.length - k = d → k ≤ f.blocks.length →
  exec T ziT ⟨[a0,a1,.one (.ptr 1 0 0 0),a3,.one (.ptr 2 0 0 0),.one (.ap 3 0 (((zm f).take k).map rl)),a6,a7,vL (f.blocks.map rb),vI f.blocks.length,vI k,a11,a12],[.cells 0 3 [zcW f],.cells 0 2 [[.f (.sl []),.f (.sl [])]],.cells 0 1 [[.f (ei f.blocks.length)]],.tok 1 [k]],0,0⟩ =
   some (match zij f.blocks.length k (f.blocks.drop k) with
    | none => (.exit 0,⟨[vU,vU,.one (.ptr 1 0 0 0),vU,vU,.one (.ap 3 0 ((zm f).map rl)),vU,vU,vU,vU,vU,vU,vU],[.cells 0 3 [zcW f],.cells 0 2 [[.f (.sl []),.f (.sl [])]],.cells 0 1 [[.f (ei f.blocks.length)]],.tok 1 [f.blocks.length]],0,0⟩)
    | some (j,b) => (.ret,⟨[vU,vU,.one (.ptr 1 0 0 0),vI 5,vU,vU,vU,vU,vU,vU,vU,vU,vU],[.cells 0 3 [zcW f],.cells 0 2 [[.f (.sl []),.f (.sl [])]],.cells 0 1 [[.f (ei f.blocks.length)]],.tok 1 [j],.cells 0 5 [zq b]],0,0⟩)):=by
 intro d
 induction d with
 | zero =>
   intro k a0 a1 a3 a6 a7 a11 a12 q1 q2
   have hk : k = f.blocks.length:=by omega
   subst hk
   have e : (zm f).take f.blocks.length = zm f:=ys (by simp [zm])
   rw [xl ziT rfl,zlq,e]
   simp -implicitDefEqProofs only [go_sem,yg,yf,zij]
 | succ d ih =>
   intro k a0 a1 a3 a6 a7 a11 a12 q1 q2
   have hk : k < f.blocks.length:=by omega
   have hd : f.blocks.drop k = f.blocks[k] :: f.blocks.drop (k + 1):=ya hk
   have hm:=hf.block _ (yh hk)
   rw [xl ziT rfl,zlq,hd,zij]
   by_cases c1 : zlU f.blocks[k].kind = f.blocks[k].to.length
   ·have hc:=zaQ f.blocks[k].to (zku f.blocks.length) 144 [] [.ptr 2 0 0 0] [.cells 0 3 [zcW f],.cells 0 2 [[.f (.sl []),.f (.sl [])]],.cells 0 1 [[.f (ei f.blocks.length)]],.tok 1 [k],.cells 0 5 [zq f.blocks[k]]] hm.to (fun x _ => zph x _ _ _ _)
    cases c2 : f.blocks[k].to.any (zku f.blocks.length)
    ·have hlt : ((zm f).take k).length = k:=by simp [zm]; omega
     have hlim : k + 1 ≤ LIM:=by unfold LIM; omega
     have hv:=zuy f.blocks[k].to
     have hs:=zt5 f.blocks[k].to hm.to [.cells 0 3 [zcW f],.cells 0 2 [[.f (.sl []),.f (.sl [])]],.cells 0 1 [[.f (ei f.blocks.length)]],.tok 1 [k],.cells 0 5 [zq f.blocks[k]],.cells 0 1 [[.f (.sl (f.blocks[k].to.map ri))]]] 5 rfl
     have hcp:=zso (zbX f.blocks[k].to) f.blocks[k].to.length (zns _) hm.to [.cells 0 3 [zcW f],.cells 0 2 [[.f (.sl []),.f (.sl [])]],.cells 0 1 [[.f (ei f.blocks.length)]],.tok 1 [k],.cells 0 5 [zq f.blocks[k]],.cells 0 1 [[.f (.sl (f.blocks[k].to.map ri))]],.cells 0 1 ((zbX f.blocks[k].to).map zj)] 6 rfl
     have e : ((zm f).take k).map rl ++ [[Fz.sl ((zl (zbX f.blocks[k].to)).map ri)]] = ((zm f).take (k + 1)).map rl:=by
      rw [yw (by simpa [zm] using hk),yu]
      simp [zm,rl,ztg]
     have:=ih (k + 1) vU vU vU vU vU vU vU (by omega) (by omega)
     rw [← e] at this
     simp -implicitDefEqProofs only [go_sem] at hc hv hs hcp this
     simp -implicitDefEqProofs only [go_sem,ilt hk,zp hk,rb,c1,hc,c2,zih,hv,hs,hcp,hlt,hlim,za hk hf.blocks] at this ⊢
     exact this
    ·simp -implicitDefEqProofs only [go_sem] at hc
     simp -implicitDefEqProofs only [go_sem,ilt hk,zp hk,rb,c1,hc,c2,zih]
   ·have c1' : ¬ zlU f.blocks[k].kind = (f.blocks[k].to.length : Int):=c1
    simp -implicitDefEqProofs only [go_sem,ilt hk,zp hk,rb,c1,zih]
theorem znO (n : Nat) : ∀ (bs : List PBlock) (k : Nat),(zij n k bs).isNone = bs.all (zih n)
 | [],_ => rfl
 | b :: r,k => by
   simp only [zij,List.all_cons]
   cases h : zih n b
   ·simp
   ·simpa using znO n r (k + 1)
theorem zjS : ∀ l : List Int,(zl l).length ≤ l.length
 | [] => by simp [zl]
 | [x] => by simp [zl]
 | x :: y :: r => by
   have:=zjS (y :: r)
   simp only [zl]
   split
   ·simp only [yd] at this ⊢; omega
   ·simp only [yd] at this ⊢; omega
theorem ztR (l : List Int) : (ztg l).length ≤ l.length:=by
 have:=zjS (zbX l)
 rwa [zns] at this
theorem zh6 {f : PFunc} (hf : okF f) : zjv (zm f):=by
 refine ⟨by simpa [zm] using hf.blocks,fun l hl => ?_⟩
 obtain ⟨b,hb,rfl⟩:=yR.1 hl
 have:=ztR b.to
 have:=(hf.block b hb).to
 omega
def zax (f : PFunc) : Bool:=!decide (64 < f.blocks.length) && (f.blocks.all (zih f.blocks.length) && zbk (zm f))
def zgo (f : PFunc) : V:=if zax f = true then .tup [.agg [.f (.sl ((zm f).map rl)),.f (.sl ((zM (zm f)).map rl))],vI 0] else .tup [.agg [.f (.sl []),.f (.sl [])],vI 5]
@[go_sem] theorem zlZ (f : PFunc) (hf : okF f) : call T 98 [zhc f] [] = some (zgo f,[]):=by
  rw [ze (fn:=zgF) rfl]
  by_cases c1 : 64 < f.blocks.length
  ·have c1' : (64 : Int) < (f.blocks.length : Int):=by omega
   simp -implicitDefEqProofs only [go_sem,zgF,c1,c1',zgo,zax]
  have c1' : ¬ (64 : Int) < (f.blocks.length : Int):=by omega
  have hl:=fun a0 a1 a3 a6 a7 a11 a12 => zCA f hf (by omega) f.blocks.length 0 a0 a1 a3 a6 a7 a11 a12 (by omega) (by omega)
  have ha:=znO f.blocks.length f.blocks 0
  simp only [yi,ye,yO] at hl
  cases e : zij f.blocks.length 0 f.blocks with
  | some x =>
    rw [e] at ha
    simp only [Option.isNone_some] at ha
    obtain ⟨j,b⟩:=x
    simp -implicitDefEqProofs only [go_sem,e] at hl
    simp -implicitDefEqProofs only [go_sem,zgF,c1,c1',hl,zgo,zax,← ha]
  | none =>
    rw [e] at ha
    simp only [Option.isNone_none] at ha
    have hm:=zjI (zm f) (zh6 hf)
    cases e2 : zbk (zm f)
    ·simp -implicitDefEqProofs only [go_sem,e,zjf,e2] at hl hm
     simp -implicitDefEqProofs only [go_sem,zgF,c1,c1',hl,hm,zgo,zax,← ha,e2]
    ·simp -implicitDefEqProofs only [go_sem,e,zjf,e2] at hl hm
     simp -implicitDefEqProofs only [go_sem,zgF,c1,c1',hl,hm,zgo,zax,← ha,e2]
end AC
namespace AC
open Go Go.A Go.A.Lex
theorem ztS {t : List Int} {a : Int} (h0 : ¬ a < 0) (h1 : ¬ (t.length : Int) ≤ a) : (t.map ri)[a.toNat]? = some [.lit (.int .i64 (tr t a))]:=by
 have : a.toNat < t.length:=by omega
 rw [zp this]
 simp [tr,this,ri]
theorem zwo (t : List Int) (hl : t.length ≤ 4294967296) : ∀ (d k : Nat) (a : Int) (a2 a3 a6 a7 a8 : V),t.length - k = d → k ≤ t.length →
  exec T zhs ⟨[vIs t,vI a,a2,a3,vI t.length,vI k,a6,a7,a8],[],0,0⟩ =
   some (match zX t d k a with
    | none => (.exit 0,⟨[vU,vU,vU,vU,vU,vU,vU,vU,vU],[],0,0⟩)
    | some n => (.ret,⟨[vU,vU,vI n,vU,vU,vU,vU,vU,vU],[],0,0⟩)):=by
 intro d
 induction d with
 | zero =>
   intro k a a2 a3 a6 a7 a8 h1 h2
   have hk : k = t.length:=by omega
   subst hk
   rw [xl zhs rfl,zjj]
   simp -implicitDefEqProofs only [go_sem,yg,zX]
 | succ d ih =>
   intro k a a2 a3 a6 a7 a8 h1 h2
   have hk : k < t.length:=by omega
   rw [xl zhs rfl,zjj,zX]
   by_cases c1 : a < 0
   ·simp -implicitDefEqProofs only [go_sem,ilt hk,c1]
   by_cases c2 : (t.length : Int) ≤ a
   ·simp -implicitDefEqProofs only [go_sem,ilt hk,c1,c2]
   have c0 : 0 ≤ a:=by omega
   have c3 : a < (t.length : Int):=by omega
   by_cases c4 : tr t a = -1
   ·simp -implicitDefEqProofs only [go_sem,ilt hk,c0,c1,c2,c3,ztS c1 c2,c4]
   ·have:=ih (k + 1) (tr t a) vU vU vU vU vU (by omega) (by omega)
    simp -implicitDefEqProofs only [go_sem] at this
    simp -implicitDefEqProofs only [go_sem,ilt hk,c0,c1,c2,c3,ztS c1 c2,c4,za hk hl]
    rw [this]
    rfl
@[go_sem] theorem zj1 (t : List Int) (a : Int) (hl : t.length ≤ 4294967296) : call T 250 [vIs t,vI a] [] = some (vI (zE t a),[]):=by
  rw [ze (fn:=zkW) rfl]
  have h:=fun a2 a3 a6 a7 a8 => zwo t hl t.length 0 a a2 a3 a6 a7 a8 (by omega) (by omega)
  simp only [ye] at h
  cases e : zX t t.length 0 a <;> simp -implicitDefEqProofs only [go_sem,e] at h <;> simp -implicitDefEqProofs only [go_sem,zkW,h,zE,e,Option.getD_none,Option.getD_some]
theorem zwy (t : List Int) (hl : t.length ≤ 4294967296) : ∀ (d k n : Nat) (a1 a3 a4 a8 a9 a10 : V),t.length - k = d → k ≤ t.length → n ≤ k →
  exec T zhg ⟨[vIs t,a1,vI n,a3,a4,vIs t,vI t.length,vI k,a8,a9,a10],[],0,0⟩ =
   some (match zaD t k n (t.drop k) with
    | none => (.ret,⟨[vU,vB false,vU,vU,vU,vU,vU,vU,vU,vU,vU],[],0,0⟩)
    | some n => (.exit 0,⟨[vU,vU,vI n,vU,vU,vU,vU,vU,vU,vU,vU],[],0,0⟩)):=by
 intro d
 induction d with
 | zero =>
   intro k n a1 a3 a4 a8 a9 a10 h1 h2 h3
   have hk : k = t.length:=by omega
   subst hk
   rw [xl zhg rfl,zjJ]
   simp -implicitDefEqProofs only [go_sem,yg,yf,zaD]
 | succ d ih =>
   intro k n a1 a3 a4 a8 a9 a10 h1 h2 h3
   have hk : k < t.length:=by omega
   have hd : t.drop k = t[k] :: t.drop (k + 1):=ya hk
   have hc:=zj1 t k hl
   have hn:=za (k:=n) (n:=t.length) (by omega) hl
   rw [xl zhg rfl,zjJ,hd,zaD]
   simp -implicitDefEqProofs only [go_sem] at hc
   by_cases c1 : t[k] = -2
   ·have:=ih (k + 1) n vU vU vU vU vU vU (by omega) (by omega) (by omega)
    simp -implicitDefEqProofs only [go_sem] at this
    simp -implicitDefEqProofs only [go_sem,ilt hk,zp hk,ri,c1,za hk hl]
    rw [this]
    all_goals rfl
   ·by_cases c2 : t[k] = -1
    ·by_cases c3 : zE t k < 0
     ·simp -implicitDefEqProofs only [go_sem,ilt hk,zp hk,ri,c1,c2,hc,c3,hn]
     ·have:=ih (k + 1) (n + 1) vU vU vU vU vU vU (by omega) (by omega) (by omega)
      simp -implicitDefEqProofs only [go_sem] at this
      simp -implicitDefEqProofs only [go_sem,ilt hk,zp hk,ri,c1,c2,hc,c3,hn,za hk hl]
      rw [this]
      all_goals rfl
    ·by_cases c3 : zE t k < 0
     ·simp -implicitDefEqProofs only [go_sem,ilt hk,zp hk,ri,c1,c2,hc,c3]
     ·have:=ih (k + 1) n vU vU vU vU vU vU (by omega) (by omega) (by omega)
      simp -implicitDefEqProofs only [go_sem] at this
      simp -implicitDefEqProofs only [go_sem,ilt hk,zp hk,ri,c1,c2,hc,c3,za hk hl]
      rw [this]
      all_goals rfl
@[go_sem] theorem zwl (t : List Int) (hl : t.length ≤ 4294967296) : call T 248 [vIs t] [] = some (vB (zgp t),[]):=by
  rw [ze (fn:=zgI) rfl]
  have h:=fun a1 a3 a4 a8 a9 a10 => zwy t hl t.length 0 0 a1 a3 a4 a8 a9 a10 (by omega) (by omega) (by omega)
  simp only [ye,yi] at h
  cases e : zaD t 0 0 t with
  | none =>
    simp -implicitDefEqProofs only [go_sem,e] at h
    simp -implicitDefEqProofs only [go_sem,zgI,h,zgp,e]
    rfl
  | some n =>
    simp -implicitDefEqProofs only [go_sem,e] at h
    by_cases c : n = 1
    ·subst c
     simp -implicitDefEqProofs only [go_sem,zgI,h,zgp,e]
     rfl
    ·have c' : ¬ (n : Int) = 1:=by omega
     have c2 : (some n == some 1) = false:=by simpa using c
     simp -implicitDefEqProofs only [go_sem,zgI,h,zgp,e,c',c2]
theorem zsf (t : List Int) (a : Int) (hl : t.length ≤ 4294967296) (r : zd) : call T 249 [vI a,.one (.ptr 0 0 0 0)] (.cells 0 1 [[.f (eI t)]] :: r) = some (vB (decide (zE t a < 0)),.cells 0 1 [[.f (eI t)]] :: r):=by
 rw [ze (fn:=zmE) rfl]
 have h:=zj1 t a hl
 simp -implicitDefEqProofs only [go_sem] at h
 simp -implicitDefEqProofs only [go_sem,zmE,h]
theorem zuN (t l : List Int) (hl : t.length ≤ 4294967296) (hll : l.length ≤ 4294967296) : call T 232 [vIs t,vIs l] [] = some (vB (inS t l),[]):=by
 rw [ze (fn:=zry) rfl]
 have hc:=zaQ l (fun a => decide (zE t a < 0)) 249 [] [.ptr 0 0 0 0] [.cells 0 1 [[.f (eI t)]]] hll (fun x _ => zsf t x hl [])
 have hr:=zwl t hl
 simp -implicitDefEqProofs only [go_sem] at hc
 cases c : zgp t <;> simp -implicitDefEqProofs only [go_sem,c] at hr <;> simp -implicitDefEqProofs only [go_sem,zry,hr,c,hc,inS]
theorem znq (t : List Int) (a b : Int) (hl : t.length ≤ 4294967296) : call T 232 [vIs t,vL [[ei a],[ei b]]] [] = some (vB (inS t [a,b]),[]):=zuN t [a,b] hl (by simp)
theorem zx9 (t : List Int) (hl : t.length ≤ 4294967296) (hr : zgp t = true) : ∀ (d : Nat) (a b : Int) (a3 a4 a5 a6 : V),0 ≤ zE t a → 0 ≤ zE t b → zE t a + zE t b ≤ d →
  exec T zis ⟨[vIs t,vI a,vI b,a3,a4,a5,a6],[],0,0⟩ = some (.exit 0,⟨[vU,vI (zit t d a b),vU,vU,vU,vU,vU],[],0,0⟩):=by
 intro d
 induction d with
 | zero =>
   intro a b a3 a4 a5 a6 ha hb hd
   have ia:=zgZ ha
   have ib:=zgZ hb
   have e : a = b:=zsZ hr ia ib (zg5 (by omega)) (zg5 (by omega))
   subst e
   rw [xl zis rfl,zlo]
   simp -implicitDefEqProofs only [go_sem,zit]
 | succ d ih =>
   intro a b a3 a4 a5 a6 ha hb hd
   obtain ⟨a0,a1⟩:=zgZ ha
   obtain ⟨b0,b1⟩:=zgZ hb
   have ca:=zj1 t a hl
   have cb:=zj1 t b hl
   simp -implicitDefEqProofs only [go_sem] at ca cb
   rw [xl zis rfl,zlo,zit]
   by_cases c1 : a = b
   ·subst c1
    simp -implicitDefEqProofs only [go_sem]
   by_cases c2 : zE t b ≤ zE t a
   ·have hne : tr t a ≠ -1:=fun e => by
     have h1:=zj4 a0 a1 e
     exact c1 (zsZ hr ⟨a0,a1⟩ ⟨b0,b1⟩ e (zg5 (by omega)))
    have hs:=zfe ha hne
    have:=ih (tr t a) b vU vU vU vU (by omega) hb (by omega)
    simp -implicitDefEqProofs only [go_sem] at this
    simp -implicitDefEqProofs only [go_sem,c1,c2,ca,cb,a0,ztS (t:=t) (a:=a) (by omega) (by omega),this]
   ·have hne : tr t b ≠ -1:=fun e => by
     have h1:=zj4 b0 b1 e
     omega
    have hs:=zfe hb hne
    have:=ih a (tr t b) vU vU vU vU ha (by omega) (by omega)
    simp -implicitDefEqProofs only [go_sem] at this
    simp -implicitDefEqProofs only [go_sem,c1,c2,ca,cb,b0,ztS (t:=t) (a:=b) (by omega) (by omega),this]
@[go_sem] theorem zyS (t : List Int) (a b : Int) (hl : t.length ≤ 4294967296) : call T 233 [vIs t,vI a,vI b] [] = some (vI (zwe t a b),[]):=by
  rw [ze (fn:=zkp) rfl]
  have hi:=znq t a b hl
  cases c : inS t [a,b]
  ·simp -implicitDefEqProofs only [go_sem,c] at hi
   simp -implicitDefEqProofs only [go_sem,zkp,hi,c,zwe]
  ·obtain ⟨h1,h2,h3⟩:=zDa c
   have h:=fun a3 a4 a5 a6 => zx9 t hl h1 (zE t a + zE t b).toNat a b a3 a4 a5 a6 h2 h3 (by omega)
   simp -implicitDefEqProofs only [go_sem,c] at hi h
   simp -implicitDefEqProofs only [go_sem,zkp,hi,c,zwe,h]
@[go_sem] theorem zov (t : List Int) (a b : Int) (hl : t.length ≤ 4294967296) : call T 196 [vIs t,vI a,vI b] [] = some (vB (zkr t a b),[]):=by
  rw [ze (fn:=zmF) rfl]
  have hi:=znq t a b hl
  have hm:=zyS t a b hl
  simp -implicitDefEqProofs only [go_sem] at hm
  cases c : inS t [a,b] <;> simp -implicitDefEqProofs only [go_sem,c] at hi <;> simp -implicitDefEqProofs only [go_sem,zmF,hi,hm,c,zkr]
end AC
namespace AC
open Go Go.A Go.A.Lex
structure Use where
 v : Int
 shape : Int × Int
 block : Int
 at' : Int
abbrev zlA : Int:=1048576
def zU (ask : Use → Int) : List Use → Int
 | [] => 0
 | u :: r => if ask u = 0 then zU ask r else ask u
theorem zgG (ask : Use → Int) : ∀ (a b : List Use),zU ask (a ++ b) = if zU ask a = 0 then zU ask b else zU ask a
 | [],b => by simp [zU]
 | u :: r,b => by
   simp only [List.cons_append,zU,zgG ask r b]
   by_cases h : ask u = 0 <;> simp [h]
def zH (p : PPhi) (k : Nat) : List Int → List Use
 | [] => []
 | v :: r => ⟨v,(p.bits,1),p.src.getD k 0,zlA⟩ :: zH p (k + 1) r
def zfN (p : PPhi) : List Use:=zH p 0 p.args
def zO (o : POp) (i at' : Int) (k : Nat) : List (Int × Int) → List Use
 | [] => []
 | s :: r => ⟨o.args.getD k 0,s,i,at'⟩ :: zO o i at' (k + 1) r
def zkQ (o : POp) (i at' : Int) : List Use:=zO o i at' 0 (zaW o)
def zu (i : Int) (k : Nat) : List POp → List Use
 | [] => []
 | o :: r => zkQ o i (k : Int) ++ zu i (k + 1) r
def zaj (l : List PPhi) : List Use:=l.flatMap zfN
def ziQ (f : PFunc) (b : PBlock) : Int:=if b.kind = 0 then f.ret else if b.kind = 2 then 1 else 0
def zbr (f : PFunc) (i : Int) (b : PBlock) : List Use:=if ziQ f b = 0 then [] else [⟨b.arg,(ziQ f b,1),i,zlA⟩]
def zgQ (f : PFunc) (i : Int) (b : PBlock) : List Use:=zaj b.phis ++ (zu i 0 b.ops ++ zbr f i b)
def zaC (f : PFunc) (k : Nat) : List PBlock → List Use
 | [] => []
 | b :: r => zgQ f (k : Int) b ++ zaC f (k + 1) r
def zfb (f : PFunc) : List Use:=zaC f 0 f.blocks
abbrev zxA (f : PFunc) (level : Int) (x y z d : C) : Ob:=.cells 0 8 [[.f (eI f.params),.f (ei f.ret),.f (.sl (f.blocks.map rb)),.f (ei level),x,y,z,d]]
theorem ziE (b : Int) : call T 205 [vI b] [] = some (.agg [.f (ei b),.f (ei 1)],[]):=by
 rw [ze (fn:=zhE) rfl]
 simp -implicitDefEqProofs only [go_sem,zhE]
section
variable (f : PFunc) (hf : okF f) (level : Int) (x y z dd : C) (g : Nat) (caps : List C) (σ : zd) (hck : σ[1]? = some (zxA f level x y z dd)) (hσ : Ok σ) (hcaps : C.lts σ.length caps = true) (ask : Use → Int)
 (hask : ∀ (r : zd) (u : Use),Obs.lt (σ.length + r.length) r = true → call T g (vI u.v :: .agg [.f (ei u.shape.1),.f (ei u.shape.2)] :: vI u.block :: vI u.at' :: caps.map V.one) (σ ++ r) = some (vI (ask u),σ ++ r))
abbrev zAn : V:=.one (.fn g [] caps)
include hck hσ hcaps hask
theorem zCT (b : PBlock) (p : PPhi) (hb : okB b) (hp : p ∈ b.phis) (hlen : p.args.length = p.src.length) (i kp : Int) : ∀ (d k : Nat) (a2 a7 a8 a9 a10 a11 a12 a13 a17 a21 a25 a26 a27 a28 a29 a30 a31 a32 a33 a34 a35 a36 a37 : V),p.args.length - k = d → k ≤ p.args.length →
  exec T zbT ⟨[.one (.ptr 1 0 0 0),zAn g caps,a2,vI 0,vI i,.one (.ptr σ.length 0 0 0),.one (.ptr (σ.length + 1) 0 0 0),a7,a8,a9,a10,a11,a12,a13,vL (f.blocks.map rb),vI f.blocks.length,vI i,a17,vL (b.phis.map rp),vI b.phis.length,vI kp,a21,vIs p.args,vI p.args.length,vI k,a25,a26,a27,a28,a29,a30,a31,a32,a33,a34,a35,a36,a37],σ ++ [.cells 0 5 [zq b],.cells 0 4 [zuO p]],σ.length,σ.length⟩ =
   some (if zU ask (zH p k (p.args.drop k)) = 0 then (.exit 4,⟨[.one (.ptr 1 0 0 0),zAn g caps,vU,vI 0,vI i,.one (.ptr σ.length 0 0 0),vU,vU,vU,vU,vU,vU,vU,vU,vL (f.blocks.map rb),vI f.blocks.length,vI i,vU,vL (b.phis.map rp),vI b.phis.length,vI kp,vU,vU,vU,vU,vU,vU,vU,vU,vU,vU,vU,vU,vU,vU,vU,vU,vU],σ ++ [.cells 0 5 [zq b],.cells 0 4 [zuO p]],σ.length,σ.length⟩)
    else (.goto 0,⟨[vU,vU,vU,vI (zU ask (zH p k (p.args.drop k))),vU,vU,vU,vU,vU,vU,vU,vU,vU,vU,vU,vU,vU,vU,vU,vU,vU,vU,vU,vU,vU,vU,vU,vU,vU,vU,vU,vU,vU,vU,vU,vU,vU,vU],σ,σ.length,σ.length⟩)):=by
 intro d
 have hcap:=fun k => zeX (yv σ.length k) caps hcaps
 have hl : p.args.length ≤ 4294967296:=(hb.phi p hp).2
 induction d with
 | zero =>
   intro k a2 a7 a8 a9 a10 a11 a12 a13 a17 a21 a25 a26 a27 a28 a29 a30 a31 a32 a33 a34 a35 a36 a37 h1 h2
   have hk : k = p.args.length:=by omega
   subst hk
   rw [xl zbT rfl,zek]
   simp -implicitDefEqProofs only [go_sem,yg,yf,zH,zU]
 | succ d ih =>
   intro k a2 a7 a8 a9 a10 a11 a12 a13 a17 a21 a25 a26 a27 a28 a29 a30 a31 a32 a33 a34 a35 a36 a37 h1 h2
   have hk : k < p.args.length:=by omega
   have hk2 : k < p.src.length:=by omega
   have hd : p.args.drop k = p.args[k] :: p.args.drop (k + 1):=ya hk
   have hsc:=ziE p.bits
   have ha:=hask [.cells 0 5 [zq b],.cells 0 4 [zuO p]] ⟨p.args[k],(p.bits,1),p.src[k],zlA⟩ (by simp -implicitDefEqProofs only [go_sem])
   have hg : p.src.getD k 0 = p.src[k]:=by simp [hk2]
   rw [xl zbT rfl,zek,hd,zH,zU,hg]
   simp -implicitDefEqProofs only [go_sem,zlA] at hsc ha
   by_cases c : ask ⟨p.args[k],(p.bits,1),p.src[k],zlA⟩ = 0
   ·have c' : ask { v:=p.args[k],shape:=(p.bits,1),block:=p.src[k],at':=1048576 } = 0:=c
    have:=ih (k + 1) vU vU vU vU vU vU vU vU vU vU vU vU vU vU vU vU vU vU vU vU vU vU vU (by omega) (by omega)
    simp -implicitDefEqProofs only [go_sem] at this
    simp -implicitDefEqProofs only [go_sem,ilt hk,zp hk,zp hk2,ri,hsc,ha,c',za hk hl,zlA,hcap,Ok.up hσ,zh1 hck,Ok.at hσ,zhQ hck,this]
   ·have c' : ¬ ask { v:=p.args[k],shape:=(p.bits,1),block:=p.src[k],at':=1048576 } = 0:=c
    simp -implicitDefEqProofs only [go_sem,ilt hk,zp hk,zp hk2,ri,hsc,ha,c',zlA,Ok.at hσ]
def zjc (b : PBlock) : Prop:=(∀ p ∈ b.phis,p.args.length = p.src.length) ∧ ∀ o ∈ b.ops,(zaW o).length ≤ o.args.length
theorem zDg (b : PBlock) (hb : okB b) (hab : zjc b) (i : Int) : ∀ (d k : Nat) (a2 a6 a7 a8 a9 a10 a11 a12 a13 a17 a21 a22 a23 a24 a25 a26 a27 a28 a29 a30 a31 a32 a33 a34 a35 a36 a37 : V),b.phis.length - k = d → k ≤ b.phis.length →
  exec T zbY ⟨[.one (.ptr 1 0 0 0),zAn g caps,a2,vI 0,vI i,.one (.ptr σ.length 0 0 0),a6,a7,a8,a9,a10,a11,a12,a13,vL (f.blocks.map rb),vI f.blocks.length,vI i,a17,vL (b.phis.map rp),vI b.phis.length,vI k,a21,a22,a23,a24,a25,a26,a27,a28,a29,a30,a31,a32,a33,a34,a35,a36,a37],σ ++ [.cells 0 5 [zq b]],σ.length,σ.length⟩ =
   some (if zU ask (zaj (b.phis.drop k)) = 0 then (.exit 2,⟨[.one (.ptr 1 0 0 0),zAn g caps,vU,vI 0,vI i,.one (.ptr σ.length 0 0 0),vU,vU,vU,vU,vU,vU,vU,vU,vL (f.blocks.map rb),vI f.blocks.length,vI i,vU,vU,vU,vU,vU,vU,vU,vU,vU,vU,vU,vU,vU,vU,vU,vU,vU,vU,vU,vU,vU],σ ++ [.cells 0 5 [zq b]],σ.length,σ.length⟩)
    else (.goto 0,⟨[vU,vU,vU,vI (zU ask (zaj (b.phis.drop k))),vU,vU,vU,vU,vU,vU,vU,vU,vU,vU,vU,vU,vU,vU,vU,vU,vU,vU,vU,vU,vU,vU,vU,vU,vU,vU,vU,vU,vU,vU,vU,vU,vU,vU],σ,σ.length,σ.length⟩)):=by
 intro d
 have hcap:=fun k => zeX (yv σ.length k) caps hcaps
 induction d with
 | zero =>
   intro k a2 a6 a7 a8 a9 a10 a11 a12 a13 a17 a21 a22 a23 a24 a25 a26 a27 a28 a29 a30 a31 a32 a33 a34 a35 a36 a37 h1 h2
   have hk : k = b.phis.length:=by omega
   subst hk
   rw [xl zbY rfl,zed]
   simp -implicitDefEqProofs only [go_sem,yg,yf,zaj,yK,zU]
 | succ d ih =>
   intro k a2 a6 a7 a8 a9 a10 a11 a12 a13 a17 a21 a22 a23 a24 a25 a26 a27 a28 a29 a30 a31 a32 a33 a34 a35 a36 a37 h1 h2
   have hk : k < b.phis.length:=by omega
   have hd : b.phis.drop k = b.phis[k] :: b.phis.drop (k + 1):=ya hk
   have hm:=yh hk
   have h5:=fun a2 a7 a8 a9 a10 a11 a12 a13 a17 a21 a25 a26 a27 a28 a29 a30 a31 a32 a33 a34 a35 a36 a37 => zCT f level x y z dd g caps σ hck hσ hcaps ask hask b b.phis[k] hb hm (hab.1 _ hm) i k b.phis[k].args.length 0 a2 a7 a8 a9 a10 a11 a12 a13 a17 a21 a25 a26 a27 a28 a29 a30 a31 a32 a33 a34 a35 a36 a37 (by omega) (by omega)
   have e : zaj (b.phis[k] :: b.phis.drop (k + 1)) = zfN b.phis[k] ++ zaj (b.phis.drop (k + 1)):=by rw [zaj,List.flatMap_cons]; rfl
   rw [xl zbY rfl,zed,hd,e,zgG]
   simp only [yi,ye] at h5
   have e2 : zH b.phis[k] 0 b.phis[k].args = zfN b.phis[k]:=rfl
   rw [e2] at h5
   by_cases c : zU ask (zfN b.phis[k]) = 0
   ·have:=ih (k + 1) vU vU vU vU vU vU vU vU vU vU vU vU vU vU vU vU vU vU vU vU vU vU vU vU vU vU vU (by omega) (by omega)
    simp -implicitDefEqProofs only [go_sem,c] at this h5
    simp -implicitDefEqProofs only [go_sem,ilt hk,zp hk,rp,h5,c,za hk hb.phis,hcap,Ok.up hσ,zh1 hck,Ok.at hσ,zhQ hck,this]
   ·simp -implicitDefEqProofs only [go_sem,c] at h5
    simp -implicitDefEqProofs only [go_sem,ilt hk,zp hk,rp,h5,c]
theorem zDD (b : PBlock) (o : POp) (hb : okB b) (ho : o ∈ b.ops) (hlen : (zaW o).length ≤ o.args.length) (i ko : Int) : ∀ (d k : Nat) (a2 a6 a7 a8 a11 a12 a13 a17 a18 a19 a20 a21 a22 a23 a24 a25 a26 a30 a34 a35 a36 a37 : V),(zaW o).length - k = d → k ≤ (zaW o).length →
  exec T zcd ⟨[.one (.ptr 1 0 0 0),zAn g caps,a2,vI 0,vI i,.one (.ptr σ.length 0 0 0),a6,a7,a8,vI ko,.one (.ptr (σ.length + 1) 0 0 0),a11,a12,a13,vL (f.blocks.map rb),vI f.blocks.length,vI i,a17,a18,a19,a20,a21,a22,a23,a24,a25,a26,vL (b.ops.map ro),vI b.ops.length,vI ko,a30,vSs (zaW o),vI (zaW o).length,vI k,a34,a35,a36,a37],σ ++ [.cells 0 5 [zq b],.cells 0 6 [cOp o]],σ.length,σ.length⟩ =
   some (if zU ask (zO o i ko k ((zaW o).drop k)) = 0 then (.exit 8,⟨[.one (.ptr 1 0 0 0),zAn g caps,vU,vI 0,vI i,.one (.ptr σ.length 0 0 0),vU,vU,vU,vU,vU,vU,vU,vU,vL (f.blocks.map rb),vI f.blocks.length,vI i,vU,vU,vU,vU,vU,vU,vU,vU,vU,vU,vL (b.ops.map ro),vI b.ops.length,vI ko,vU,vU,vU,vU,vU,vU,vU,vU],σ ++ [.cells 0 5 [zq b],.cells 0 6 [cOp o]],σ.length,σ.length⟩)
    else (.goto 0,⟨[vU,vU,vU,vI (zU ask (zO o i ko k ((zaW o).drop k))),vU,vU,vU,vU,vU,vU,vU,vU,vU,vU,vU,vU,vU,vU,vU,vU,vU,vU,vU,vU,vU,vU,vU,vU,vU,vU,vU,vU,vU,vU,vU,vU,vU,vU],σ,σ.length,σ.length⟩)):=by
 intro d
 have hcap:=fun k => zeX (yv σ.length k) caps hcaps
 have hl : (zaW o).length ≤ 4294967296:=by have:=(hb.op o ho).2; omega
 induction d with
 | zero =>
   intro k a2 a6 a7 a8 a11 a12 a13 a17 a18 a19 a20 a21 a22 a23 a24 a25 a26 a30 a34 a35 a36 a37 h1 h2
   have hk : k = (zaW o).length:=by omega
   subst hk
   rw [xl zcd rfl,zeb]
   simp -implicitDefEqProofs only [go_sem,yg,yf,zO,zU]
 | succ d ih =>
   intro k a2 a6 a7 a8 a11 a12 a13 a17 a18 a19 a20 a21 a22 a23 a24 a25 a26 a30 a34 a35 a36 a37 h1 h2
   have hk : k < (zaW o).length:=by omega
   have hk2 : k < o.args.length:=by omega
   have hd : (zaW o).drop k = (zaW o)[k] :: (zaW o).drop (k + 1):=ya hk
   have ha:=hask [.cells 0 5 [zq b],.cells 0 6 [cOp o],.cells 0 2 [[.f (ei (zaW o)[k].1),.f (ei (zaW o)[k].2)]]] ⟨o.args[k],(zaW o)[k],i,ko⟩ (by simp -implicitDefEqProofs only [go_sem])
   have hg : o.args.getD k 0 = o.args[k]:=by simp [hk2]
   rw [xl zcd rfl,zeb,hd,zO,zU,hg]
   simp -implicitDefEqProofs only [go_sem] at ha
   by_cases c : ask ⟨o.args[k],(zaW o)[k],i,ko⟩ = 0
   ·have:=ih (k + 1) vU vU vU vU vU vU vU vU vU vU vU vU vU vU vU vU vU vU vU vU vU vU (by omega) (by omega)
    simp -implicitDefEqProofs only [go_sem,c] at this ha
    simp -implicitDefEqProofs only [go_sem,ilt hk,zp hk,zp hk2,ri,rs,ha,c,za hk hl,hcap,Ok.up hσ,zh1 hck,Ok.at hσ,zhQ hck,this]
   ·simp -implicitDefEqProofs only [go_sem,ilt hk,zp hk,zp hk2,ri,rs,ha,c,Ok.at hσ]
theorem zC3 (b : PBlock) (hb : okB b) (hab : zjc b) (i : Int) : ∀ (d k : Nat) (a2 a6 a7 a8 a9 a10 a11 a12 a13 a17 a18 a19 a20 a21 a22 a23 a24 a25 a26 a30 a31 a32 a33 a34 a35 a36 a37 : V),b.ops.length - k = d → k ≤ b.ops.length →
  exec T zcb ⟨[.one (.ptr 1 0 0 0),zAn g caps,a2,vI 0,vI i,.one (.ptr σ.length 0 0 0),a6,a7,a8,a9,a10,a11,a12,a13,vL (f.blocks.map rb),vI f.blocks.length,vI i,a17,a18,a19,a20,a21,a22,a23,a24,a25,a26,vL (b.ops.map ro),vI b.ops.length,vI k,a30,a31,a32,a33,a34,a35,a36,a37],σ ++ [.cells 0 5 [zq b]],σ.length,σ.length⟩ =
   some (if zU ask (zu i k (b.ops.drop k)) = 0 then (.exit 6,⟨[.one (.ptr 1 0 0 0),zAn g caps,vU,vI 0,vI i,.one (.ptr σ.length 0 0 0),vU,vU,vU,vU,vU,vU,vU,vU,vL (f.blocks.map rb),vI f.blocks.length,vI i,vU,vU,vU,vU,vU,vU,vU,vU,vU,vU,vU,vU,vU,vU,vU,vU,vU,vU,vU,vU,vU],σ ++ [.cells 0 5 [zq b]],σ.length,σ.length⟩)
    else (.goto 0,⟨[vU,vU,vU,vI (zU ask (zu i k (b.ops.drop k))),vU,vU,vU,vU,vU,vU,vU,vU,vU,vU,vU,vU,vU,vU,vU,vU,vU,vU,vU,vU,vU,vU,vU,vU,vU,vU,vU,vU,vU,vU,vU,vU,vU,vU],σ,σ.length,σ.length⟩)):=by
 intro d
 have hcap:=fun k => zeX (yv σ.length k) caps hcaps
 induction d with
 | zero =>
   intro k a2 a6 a7 a8 a9 a10 a11 a12 a13 a17 a18 a19 a20 a21 a22 a23 a24 a25 a26 a30 a31 a32 a33 a34 a35 a36 a37 h1 h2
   have hk : k = b.ops.length:=by omega
   subst hk
   rw [xl zcb rfl,zep]
   simp -implicitDefEqProofs only [go_sem,yg,yf,zu,zU]
 | succ d ih =>
   intro k a2 a6 a7 a8 a9 a10 a11 a12 a13 a17 a18 a19 a20 a21 a22 a23 a24 a25 a26 a30 a31 a32 a33 a34 a35 a36 a37 h1 h2
   have hk : k < b.ops.length:=by omega
   have hd : b.ops.drop k = b.ops[k] :: b.ops.drop (k + 1):=ya hk
   have hm:=yh hk
   have ht:=zpC b.ops[k] (hb.op _ hm).1 (hb.op _ hm).2
   have h7:=fun a2 a6 a7 a8 a11 a12 a13 a17 a18 a19 a20 a21 a22 a23 a24 a25 a26 a30 a34 a35 a36 a37 => zDD f level x y z dd g caps σ hck hσ hcaps ask hask b b.ops[k] hb hm (hab.2 _ hm) i k (zaW b.ops[k]).length 0 a2 a6 a7 a8 a11 a12 a13 a17 a18 a19 a20 a21 a22 a23 a24 a25 a26 a30 a34 a35 a36 a37 (by omega) (by omega)
   rw [xl zcb rfl,zep,hd,zu,zgG]
   simp only [yi,ye] at h7
   have e2 : zO b.ops[k] i k 0 (zaW b.ops[k]) = zkQ b.ops[k] i k:=rfl
   rw [e2] at h7
   simp -implicitDefEqProofs only [go_sem] at ht
   by_cases c : zU ask (zkQ b.ops[k] i k) = 0
   ·have:=ih (k + 1) vU vU vU vU vU vU vU vU vU vU vU vU vU vU vU vU vU vU vU vU vU vU vU vU vU vU vU (by omega) (by omega)
    simp -implicitDefEqProofs only [go_sem,c] at this h7
    simp -implicitDefEqProofs only [go_sem,ilt hk,zp hk,ro,ht,h7,c,za hk hb.ops,hcap,Ok.up hσ,zh1 hck,Ok.at hσ,zhQ hck,this]
   ·simp -implicitDefEqProofs only [go_sem,c] at h7
    simp -implicitDefEqProofs only [go_sem,ilt hk,zp hk,ro,ht,h7,c]
theorem zCW (hf : okF f) (hab : ∀ b ∈ f.blocks,zjc b) : ∀ (d k : Nat) (a2 a4 a5 a6 a7 a8 a9 a10 a11 a12 a13 a17 a18 a19 a20 a21 a22 a23 a24 a25 a26 a27 a28 a29 a30 a31 a32 a33 a34 a35 a36 a37 : V),f.blocks.length - k = d → k ≤ f.blocks.length →
  exec T zb4 ⟨[.one (.ptr 1 0 0 0),zAn g caps,a2,vI 0,a4,a5,a6,a7,a8,a9,a10,a11,a12,a13,vL (f.blocks.map rb),vI f.blocks.length,vI k,a17,a18,a19,a20,a21,a22,a23,a24,a25,a26,a27,a28,a29,a30,a31,a32,a33,a34,a35,a36,a37],σ,σ.length,σ.length⟩ =
   some (if zU ask (zaC f k (f.blocks.drop k)) = 0 then (.exit 0,⟨[vU,vU,vU,vI 0,vU,vU,vU,vU,vU,vU,vU,vU,vU,vU,vU,vU,vU,vU,vU,vU,vU,vU,vU,vU,vU,vU,vU,vU,vU,vU,vU,vU,vU,vU,vU,vU,vU,vU],σ,σ.length,σ.length⟩)
    else (.goto 0,⟨[vU,vU,vU,vI (zU ask (zaC f k (f.blocks.drop k))),vU,vU,vU,vU,vU,vU,vU,vU,vU,vU,vU,vU,vU,vU,vU,vU,vU,vU,vU,vU,vU,vU,vU,vU,vU,vU,vU,vU,vU,vU,vU,vU,vU,vU],σ,σ.length,σ.length⟩)):=by
 intro d
 have hcap:=fun k => zeX (yv σ.length k) caps hcaps
 have hlow:=zgd hck
 induction d with
 | zero =>
   intro k a2 a4 a5 a6 a7 a8 a9 a10 a11 a12 a13 a17 a18 a19 a20 a21 a22 a23 a24 a25 a26 a27 a28 a29 a30 a31 a32 a33 a34 a35 a36 a37 h1 h2
   have hk : k = f.blocks.length:=by omega
   subst hk
   rw [xl zb4 rfl,zdU]
   simp -implicitDefEqProofs only [go_sem,yg,yf,zaC,zU]
 | succ d ih =>
   intro k a2 a4 a5 a6 a7 a8 a9 a10 a11 a12 a13 a17 a18 a19 a20 a21 a22 a23 a24 a25 a26 a27 a28 a29 a30 a31 a32 a33 a34 a35 a36 a37 h1 h2
   have hk : k < f.blocks.length:=by omega
   have hd : f.blocks.drop k = f.blocks[k] :: f.blocks.drop (k + 1):=ya hk
   have hm:=yh hk
   have hb:=hf.block _ hm
   have h6:=fun a2 a6 a7 a8 a9 a10 a11 a12 a13 a17 a21 a22 a23 a24 a25 a26 a27 a28 a29 a30 a31 a32 a33 a34 a35 a36 a37 => zDg f level x y z dd g caps σ hck hσ hcaps ask hask f.blocks[k] hb (hab _ hm) k f.blocks[k].phis.length 0 a2 a6 a7 a8 a9 a10 a11 a12 a13 a17 a21 a22 a23 a24 a25 a26 a27 a28 a29 a30 a31 a32 a33 a34 a35 a36 a37 (by omega) (by omega)
   have h8:=fun a2 a6 a7 a8 a9 a10 a11 a12 a13 a17 a18 a19 a20 a21 a22 a23 a24 a25 a26 a30 a31 a32 a33 a34 a35 a36 a37 => zC3 f level x y z dd g caps σ hck hσ hcaps ask hask f.blocks[k] hb (hab _ hm) k f.blocks[k].ops.length 0 a2 a6 a7 a8 a9 a10 a11 a12 a13 a17 a18 a19 a20 a21 a22 a23 a24 a25 a26 a30 a31 a32 a33 a34 a35 a36 a37 (by omega) (by omega)
   rw [xl zb4 rfl,zdU,hd,zaC,zgG,zgQ,zgG,zgG]
   simp only [yi,ye] at h6 h8
   by_cases c6 : zU ask (zaj f.blocks[k].phis) = 0
   ·by_cases c8 : zU ask (zu k 0 f.blocks[k].ops) = 0
    ·have:=ih (k + 1) vU vU vU vU vU vU vU vU vU vU vU vU vU vU vU vU vU vU vU vU vU vU vU vU vU vU vU vU vU vU vU vU (by omega) (by omega)
     simp -implicitDefEqProofs only [go_sem,c6,c8] at this h6 h8
     have ha:=fun u => hask [.cells 0 5 [zq f.blocks[k]],.mp [(0,V.one (.f (.lit (.int .i64 f.ret)))),(2,V.one (.f (.lit (.int .i64 1))))]] ⟨f.blocks[k].arg,(u,1),k,zlA⟩ (by simp -implicitDefEqProofs only [go_sem])
     have hsc:=fun u => ziE u
     simp -implicitDefEqProofs only [go_sem,zlA] at ha hsc
     by_cases k0 : f.blocks[k].kind = 0
     ·have k0' : (0 : Int) = f.blocks[k].kind:=k0.symm
      by_cases r0 : f.ret = 0
      ·have eu : zbr f k f.blocks[k] = []:=by simp [zbr,ziQ,k0,r0]
       simp -implicitDefEqProofs only [go_sem,ilt hk,zp hk,rb,h6,h8,c6,c8,eu,zU,hlow,hck,eq_true k0',eq_true r0,r0,za hk hf.blocks,hcap,Ok.up hσ,zh1 hck,Ok.at hσ,zhQ hck,hcaps,this]
      ·have eu : zbr f k f.blocks[k] = [⟨f.blocks[k].arg,(f.ret,1),k,1048576⟩]:=by simp [zbr,ziQ,k0,r0]
       by_cases c : ask ⟨f.blocks[k].arg,(f.ret,1),k,1048576⟩ = 0
       ·simp -implicitDefEqProofs only [go_sem,ilt hk,zp hk,rb,h6,h8,c6,c8,eu,zU,hlow,hck,eq_true k0',r0,hsc,ha,c,za hk hf.blocks,hcap,Ok.up hσ,zh1 hck,Ok.at hσ,zhQ hck,hcaps,this]
       ·simp -implicitDefEqProofs only [go_sem,ilt hk,zp hk,rb,h6,h8,c6,c8,eu,zU,hlow,hck,eq_true k0',r0,hsc,ha,c,hcap,Ok.up hσ,zh1 hck,Ok.at hσ,zhQ hck,hcaps]
     ·have k0' : ¬ (0 : Int) = f.blocks[k].kind:=fun e => k0 e.symm
      by_cases k2 : f.blocks[k].kind = 2
      ·have k2' : (2 : Int) = f.blocks[k].kind:=k2.symm
       have eu : zbr f k f.blocks[k] = [⟨f.blocks[k].arg,(1,1),k,1048576⟩]:=by simp [zbr,ziQ,k0,k2]
       by_cases c : ask ⟨f.blocks[k].arg,(1,1),k,1048576⟩ = 0
       ·simp -implicitDefEqProofs only [go_sem,ilt hk,zp hk,rb,h6,h8,c6,c8,eu,zU,hlow,hck,k0',eq_true k2',hsc,ha,c,za hk hf.blocks,hcap,Ok.up hσ,zh1 hck,Ok.at hσ,zhQ hck,hcaps,this]
       ·simp -implicitDefEqProofs only [go_sem,ilt hk,zp hk,rb,h6,h8,c6,c8,eu,zU,hlow,hck,k0',eq_true k2',hsc,ha,c,hcap,Ok.up hσ,zh1 hck,Ok.at hσ,zhQ hck,hcaps]
      ·have k2' : ¬ (2 : Int) = f.blocks[k].kind:=fun e => k2 e.symm
       have eu : zbr f k f.blocks[k] = []:=by simp [zbr,ziQ,k0,k2]
       simp -implicitDefEqProofs only [go_sem,ilt hk,zp hk,rb,h6,h8,c6,c8,eu,zU,hlow,hck,k0',k2',za hk hf.blocks,hcap,Ok.up hσ,zh1 hck,Ok.at hσ,zhQ hck,hcaps,this]
    ·simp -implicitDefEqProofs only [go_sem,c6,c8] at h6 h8
     simp -implicitDefEqProofs only [go_sem,ilt hk,zp hk,rb,h6,h8,c6,c8]
   ·simp -implicitDefEqProofs only [go_sem,c6] at h6
    simp -implicitDefEqProofs only [go_sem,ilt hk,zp hk,rb,h6,c6]
theorem zox (hf : okF f) (hab : ∀ b ∈ f.blocks,zjc b) : call T 207 [.one (.ptr 1 0 0 0),zAn g caps] σ = some (vI (zU ask (zfb f)),σ):=by
 rw [ze (fn:=zcB) rfl]
 have h:=fun a2 a4 a5 a6 a7 a8 a9 a10 a11 a12 a13 a17 a18 a19 a20 a21 a22 a23 a24 a25 a26 a27 a28 a29 a30 a31 a32 a33 a34 a35 a36 a37 => zCW f level x y z dd g caps σ hck hσ hcaps ask hask hf hab f.blocks.length 0 a2 a4 a5 a6 a7 a8 a9 a10 a11 a12 a13 a17 a18 a19 a20 a21 a22 a23 a24 a25 a26 a27 a28 a29 a30 a31 a32 a33 a34 a35 a36 a37 (by omega) (by omega)
 simp only [yi,ye] at h
 have hlow:=zgd hck []
 have e : zaC f 0 f.blocks = zfb f:=rfl
 rw [e] at h
 by_cases c : zU ask (zfb f) = 0
 ·simp -implicitDefEqProofs only [go_sem,c] at h
  simp -implicitDefEqProofs only [go_sem,zcB,zdw,zg3,hck,h,c]
 ·simp -implicitDefEqProofs only [go_sem,c] at h
  simp -implicitDefEqProofs only [go_sem,zcB,zg3]
  rw [zdw]
  simp -implicitDefEqProofs only [go_sem,hck,h,zg3]
end
end AC
namespace AC
open Go Go.A Go.A.Lex
theorem zro (o : POp) (ho : zue o) : call T 128 [vOp o] [] = some (vSs (zaW o),[]):=by
 rw [ze (fn:=zb2) rfl]
 have hM:=zlp o ho
 cases hm : zgq o
 ·simp -implicitDefEqProofs only [go_sem,hm] at hM
  simp -implicitDefEqProofs only [go_sem,zb2,zaW,hm,hM,Bool.false_eq_true,yr]
 simp -implicitDefEqProofs only [go_sem,hm] at hM
 have h:=fun a0 a2 a5 a6 a7 a8 a9 a10 a11 a12 a13 a14 a15 a16 a17 => zuR o ho hm o.args.length 0 a0 a2 a5 a6 a7 a8 a9 a10 a11 a12 a13 a14 a15 a16 a17 (by omega) (by omega)
 rw [zwO hm ho.1.1] at h
 simp only [ye,List.range_zero,yr] at h
 simp -implicitDefEqProofs only [go_sem] at h
 simp -implicitDefEqProofs only [go_sem,zb2,zaW,hm,hM,h]
def rU (u : Use) : List Fz:=[ei u.v,ei u.block,ei u.at',ei u.shape.1,ei u.shape.2]
abbrev vUs (l : List Use) : V:=.one (.f (.sl (l.map rU)))
attribute [go_sem] vUs
def zh (v : Int) : Nat → List Use → Int
 | _,[] => -1
 | k,u :: r => if u.v = v then (k : Int) else zh v (k + 1) r
theorem zwz (l : List Use) (v : Int) (hl : l.length ≤ 4294967296) : ∀ (d k : Nat) (a2 a4 a5 : V),l.length - k = d → k ≤ l.length →
  exec T zcn ⟨[vUs l,vI v,a2,vI k,a4,a5],[],0,0⟩ = some (if zh v k (l.drop k) = -1 then (.exit 0,⟨[vU,vU,vU,vU,vU,vU],[],0,0⟩) else (.ret,⟨[vU,vU,vI (zh v k (l.drop k)),vU,vU,vU],[],0,0⟩)):=by
 intro d
 induction d with
 | zero =>
   intro k a2 a4 a5 h1 h2
   have hk : k = l.length:=by omega
   subst hk
   rw [xl zcn rfl,zec]
   simp -implicitDefEqProofs only [go_sem,yg,yb,yf,zh]
 | succ d ih =>
   intro k a2 a4 a5 h1 h2
   have hk : k < l.length:=by omega
   have hd : l.drop k = l[k] :: l.drop (k + 1):=ya hk
   have:=ih (k + 1) vU vU vU (by omega) (by omega)
   rw [xl zcn rfl,zec,hd,zh]
   simp -implicitDefEqProofs only [go_sem] at this
   by_cases c : l[k].v = v
   ·have hn : ¬ (k : Int) = -1:=by omega
    rw [if_pos c,if_neg hn]
    simp -implicitDefEqProofs only [go_sem,ilt hk,zp hk,rU,yb,c,yk,ym]
   ·rw [if_neg c]
    simp -implicitDefEqProofs only [go_sem,ilt hk,zp hk,rU,yb,c,yk,ym,za hk hl,this]
theorem zht (l : List Use) (v : Int) (hl : l.length ≤ 4294967296) : call T 75 [vUs l,vI v] [] = some (vI (zh v 0 l),[]):=by
 rw [ze (fn:=zcC) rfl]
 have h:=fun a2 a4 a5 => zwz l v hl l.length 0 a2 a4 a5 (by omega) (by omega)
 simp only [ye,yi] at h
 by_cases c : zh v 0 l = -1
 ·simp -implicitDefEqProofs only [go_sem,eq_true c] at h
  simp -implicitDefEqProofs only [go_sem,zcC,h,c]
 ·simp -implicitDefEqProofs only [go_sem,c] at h
  simp -implicitDefEqProofs only [go_sem,zcC,h]
def zaJ : Nat → List Int → List Use
 | _,[] => []
 | k,b :: r => ⟨(k : Int) + 1,(b,1),-1,0⟩ :: zaJ (k + 1) r
def zcL (i : Int) (l : List PPhi) : List Use:=l.map fun p => ⟨p.dst,(p.bits,1),i,-1⟩
def zcP (i : Int) : Nat → List POp → List Use
 | _,[] => []
 | k,o :: r => if 0 < (zab o).1 then ⟨o.dst,zab o,i,(k : Int)⟩ :: zcP i (k + 1) r else zcP i (k + 1) r
def zW : Nat → List PBlock → List Use
 | _,[] => []
 | k,b :: r => zcL k b.phis ++ (zcP k 0 b.ops ++ zW (k + 1) r)
def zL (f : PFunc) : List Use:=zaJ 0 f.params ++ zW 0 f.blocks
theorem zge : ∀ (l : List Int) (k : Nat),(zaJ k l).length = l.length
 | [],_ => rfl
 | b :: r,k => by rw [zaJ,yd,zge r,yd]
theorem zio (i : Int) : ∀ (l : List POp) (k : Nat),(zcP i k l).length ≤ l.length
 | [],_ => by simp [zcP]
 | o :: r,k => by
   have:=zio i r (k + 1)
   rw [zcP]
   split <;> simp only [yd] <;> omega
section
variable (f : PFunc) (hf : okF f)
abbrev zfX (n : Nat) (r : zd) : zd:=.cells 0 3 [zcW f] :: .tok 5 [n] :: r
include hf
theorem zAm : ∀ (d k : Nat) (acc : List Use) (a0 a2 a5 a6 a7 a8 a9 a10 a11 a12 a13 a14 a15 : V),f.params.length - k = d → k ≤ f.params.length → acc.length + d ≤ 4294967296 →
  exec T zbS ⟨[a0,.one (.ptr 0 0 0 0),a2,.one (.ap 1 0 (acc.map rU)),vI k,a5,a6,a7,a8,a9,a10,a11,a12,a13,a14,a15],zfX f acc.length [],0,0⟩ =
   some (.exit 0,⟨[vU,.one (.ptr 0 0 0 0),vU,.one (.ap 1 0 ((acc ++ zaJ k (f.params.drop k)).map rU)),vU,vU,vU,vU,vU,vU,vU,vU,vU,vU,vU,vU],zfX f (acc ++ zaJ k (f.params.drop k)).length [],0,0⟩):=by
 intro d
 induction d with
 | zero =>
   intro k acc a0 a2 a5 a6 a7 a8 a9 a10 a11 a12 a13 a14 a15 h1 h2 hB
   have hk : k = f.params.length:=by omega
   subst hk
   rw [xl zbS rfl,zei]
   simp -implicitDefEqProofs only [go_sem,zfX,yg,yb,yf,zaJ,yp]
 | succ d ih =>
   intro k acc a0 a2 a5 a6 a7 a8 a9 a10 a11 a12 a13 a14 a15 h1 h2 hB
   have hk : k < f.params.length:=by omega
   have hd : f.params.drop k = f.params[k] :: f.params.drop (k + 1):=ya hk
   have hlim : acc.length + 1 ≤ LIM:=by unfold LIM; omega
   have:=ih (k + 1) (acc ++ [⟨(k : Int) + 1,(f.params[k],1),-1,0⟩]) vU vU vU vU vU vU vU vU vU vU vU vU vU (by omega) (by omega) (by simp; omega)
   have e1 : yz rU acc ++ [[Fz.lit (Value.int .i64 ((k + 1 : Nat) : Int)),Fz.lit (Value.int .i64 (-1)),Fz.lit (Value.int .i64 0),Fz.lit (Value.int .i64 f.params[k]),Fz.lit (Value.int .i64 1)]] = yz rU (acc ++ [⟨(k : Int) + 1,(f.params[k],1),-1,0⟩]):=by simp [rU]
   rw [yn,yq] at this
   rw [xl zbS rfl,zei,hd,zaJ]
   simp -implicitDefEqProofs only [go_sem,zfX,yc,yd,yo,yt] at this
   simp -implicitDefEqProofs only [go_sem,zfX,ilt hk,zp hk,ri,yb,za hk hf.params,hlim,e1,yc,yd,this]
theorem zzx (b : PBlock) (hb : okB b) (i : Nat) : ∀ (d k : Nat) (acc : List Use) (a0 a2 a4 a8 a9 a10 a11 a12 a13 a14 a15 : V),b.phis.length - k = d → k ≤ b.phis.length → acc.length + d ≤ 4294967296 →
  exec T zcf ⟨[a0,.one (.ptr 0 0 0 0),a2,.one (.ap 1 0 (acc.map rU)),a4,vI i,.one (.ptr 2 0 0 0),vI k,a8,a9,a10,a11,a12,a13,a14,a15],zfX f acc.length [.cells 0 5 [zq b]],0,0⟩ =
   some (.exit 4,⟨[vU,.one (.ptr 0 0 0 0),vU,.one (.ap 1 0 ((acc ++ zcL i (b.phis.drop k)).map rU)),vU,vI i,.one (.ptr 2 0 0 0),vU,vU,vU,vU,vU,vU,vU,vU,vU],zfX f (acc ++ zcL i (b.phis.drop k)).length [.cells 0 5 [zq b]],0,0⟩):=by
 intro d
 induction d with
 | zero =>
   intro k acc a0 a2 a4 a8 a9 a10 a11 a12 a13 a14 a15 h1 h2 hB
   have hk : k = b.phis.length:=by omega
   subst hk
   rw [xl zcf rfl,zdX]
   simp -implicitDefEqProofs only [go_sem,zfX,yg,yb,yf,zcL,yr,yp]
 | succ d ih =>
   intro k acc a0 a2 a4 a8 a9 a10 a11 a12 a13 a14 a15 h1 h2 hB
   have hk : k < b.phis.length:=by omega
   have hd : b.phis.drop k = b.phis[k] :: b.phis.drop (k + 1):=ya hk
   have hlim : acc.length + 1 ≤ LIM:=by unfold LIM; omega
   have:=ih (k + 1) (acc ++ [⟨b.phis[k].dst,(b.phis[k].bits,1),i,-1⟩]) vU vU vU vU vU vU vU vU vU vU vU (by omega) (by omega) (by simp; omega)
   have e1 : yz rU acc ++ [[Fz.lit (Value.int .i64 b.phis[k].dst),Fz.lit (Value.int .i64 (i : Int)),Fz.lit (Value.int .i64 (-1)),Fz.lit (Value.int .i64 b.phis[k].bits),Fz.lit (Value.int .i64 1)]] = yz rU (acc ++ [⟨b.phis[k].dst,(b.phis[k].bits,1),i,-1⟩]):=by simp [rU]
   have e2 : zcL (i : Int) (b.phis[k] :: b.phis.drop (k + 1)) = ⟨b.phis[k].dst,(b.phis[k].bits,1),i,-1⟩ :: zcL i (b.phis.drop (k + 1)):=rfl
   rw [yn,yq] at this
   rw [xl zcf rfl,zdX,hd,e2]
   simp -implicitDefEqProofs only [go_sem,zfX,yc,yd,yo,yt] at this
   simp -implicitDefEqProofs only [go_sem,zfX,ilt hk,zp hk,rp,yb,za hk hb.phis,hlim,e1,yc,yd,this]
theorem zxL (b : PBlock) (hb : okB b) (i : Nat) : ∀ (d k : Nat) (acc : List Use) (a0 a2 a4 a7 a9 a10 a11 a12 a13 a14 a15 : V),b.ops.length - k = d → k ≤ b.ops.length → acc.length + d ≤ 4294967296 →
  exec T zb3 ⟨[a0,.one (.ptr 0 0 0 0),a2,.one (.ap 1 0 (acc.map rU)),a4,vI i,.one (.ptr 2 0 0 0),a7,vI k,a9,a10,a11,a12,a13,a14,a15],zfX f acc.length [.cells 0 5 [zq b]],0,0⟩ =
   some (.exit 6,⟨[vU,.one (.ptr 0 0 0 0),vU,.one (.ap 1 0 ((acc ++ zcP i k (b.ops.drop k)).map rU)),vU,vI i,vU,vU,vU,vU,vU,vU,vU,vU,vU,vU],zfX f (acc ++ zcP i k (b.ops.drop k)).length [.cells 0 5 [zq b]],0,0⟩):=by
 intro d
 induction d with
 | zero =>
   intro k acc a0 a2 a4 a7 a9 a10 a11 a12 a13 a14 a15 h1 h2 hB
   have hk : k = b.ops.length:=by omega
   subst hk
   rw [xl zb3 rfl,zee]
   simp -implicitDefEqProofs only [go_sem,zfX,yg,yb,yf,zcP,yp]
 | succ d ih =>
   intro k acc a0 a2 a4 a7 a9 a10 a11 a12 a13 a14 a15 h1 h2 hB
   have hk : k < b.ops.length:=by omega
   have hd : b.ops.drop k = b.ops[k] :: b.ops.drop (k + 1):=ya hk
   have hlim : acc.length + 1 ≤ LIM:=by unfold LIM; omega
   have hG:=zrs b.ops[k] (hb.op _ (yh hk))
   rw [xl zb3 rfl,zee,hd,zcP]
   simp -implicitDefEqProofs only [go_sem] at hG
   by_cases c : 0 < (zab b.ops[k]).1
   ·have c' : (zab b.ops[k]).1 > 0:=c
    have:=ih (k + 1) (acc ++ [⟨b.ops[k].dst,zab b.ops[k],i,(k : Int)⟩]) vU vU vU vU vU vU vU vU vU vU vU (by omega) (by omega) (by simp; omega)
    have e1 : yz rU acc ++ [[Fz.lit (Value.int .i64 b.ops[k].dst),Fz.lit (Value.int .i64 (i : Int)),Fz.lit (Value.int .i64 (k : Int)),Fz.lit (Value.int .i64 (zab b.ops[k]).1),Fz.lit (Value.int .i64 (zab b.ops[k]).2)]] = yz rU (acc ++ [⟨b.ops[k].dst,zab b.ops[k],i,(k : Int)⟩]):=by simp [rU]
    rw [yn,yq] at this
    rw [if_pos c]
    simp -implicitDefEqProofs only [go_sem,zfX,yc,yd,yo,yt] at this
    simp -implicitDefEqProofs only [go_sem,zfX,ilt hk,zp hk,ro,yb,hG,eq_true c',za hk hb.ops,hlim,e1,yc,yd,this]
   ·have c' : ¬ (zab b.ops[k]).1 > 0:=c
    have:=ih (k + 1) acc vU vU vU vU vU vU vU vU vU vU vU (by omega) (by omega) (by omega)
    rw [if_neg c]
    simp -implicitDefEqProofs only [go_sem,zfX] at this
    simp -implicitDefEqProofs only [go_sem,zfX,ilt hk,zp hk,ro,yb,hG,c',za hk hb.ops,this]
theorem zyB : ∀ (d k : Nat) (acc : List Use) (a0 a2 a4 a6 a7 a8 a9 a10 a11 a12 a13 a14 a15 : V),f.blocks.length - k = d → k ≤ f.blocks.length → acc.length + ((f.blocks.drop k).map fun b => b.phis.length + b.ops.length).sum ≤ 4294967296 →
  exec T zbZ ⟨[a0,.one (.ptr 0 0 0 0),a2,.one (.ap 1 0 (acc.map rU)),a4,vI k,a6,a7,a8,a9,a10,a11,a12,a13,a14,a15],zfX f acc.length [],0,0⟩ =
   some (.exit 2,⟨[vU,vU,vU,.one (.ap 1 0 ((acc ++ zW k (f.blocks.drop k)).map rU)),vU,vU,vU,vU,vU,vU,vU,vU,vU,vU,vU,vU],zfX f (acc ++ zW k (f.blocks.drop k)).length [],0,0⟩):=by
 intro d
 induction d with
 | zero =>
   intro k acc a0 a2 a4 a6 a7 a8 a9 a10 a11 a12 a13 a14 a15 h1 h2 hB
   have hk : k = f.blocks.length:=by omega
   subst hk
   rw [xl zbZ rfl,zdT]
   simp -implicitDefEqProofs only [go_sem,zfX,yg,yb,yf,zW,yp]
 | succ d ih =>
   intro k acc a0 a2 a4 a6 a7 a8 a9 a10 a11 a12 a13 a14 a15 h1 h2 hB
   have hk : k < f.blocks.length:=by omega
   have hd : f.blocks.drop k = f.blocks[k] :: f.blocks.drop (k + 1):=ya hk
   obtain ⟨b,hb'⟩ : ∃ b,b = f.blocks[k]:=⟨_,rfl⟩
   have hb:=hf.block _ (yh hk)
   have gk:=zp (r:=rb) hk
   rw [hd,yC,yI] at hB
   rw [← hb'] at hb gk hB
   have lp : (zcL (k : Int) b.phis).length = b.phis.length:=by simp [zcL]
   have lo:=zio (k : Int) b.ops 0
   have hP:=fun a0 a2 a4 a8 a9 a10 a11 a12 a13 a14 a15 => zzx f hf b hb k b.phis.length 0 acc a0 a2 a4 a8 a9 a10 a11 a12 a13 a14 a15 (by omega) (by omega) (by omega)
   have hO:=fun a0 a2 a4 a7 a9 a10 a11 a12 a13 a14 a15 => zxL f hf b hb k b.ops.length 0 (acc ++ zcL k b.phis) a0 a2 a4 a7 a9 a10 a11 a12 a13 a14 a15 (by omega) (by omega) (by rw [yc,lp]; omega)
   have:=ih (k + 1) (acc ++ zcL k b.phis ++ zcP k 0 b.ops) vU vU vU vU vU vU vU vU vU vU vU vU vU (by omega) (by omega) (by rw [yc,yc,lp]; omega)
   simp only [ye,yi] at hP hO
   rw [xl zbZ rfl,zdT,hd,zW,← hb']
   rw [yn,yn] at this
   rw [yn] at hO
   obtain ⟨a1,ha1⟩ : ∃ a1,a1 = acc ++ zcL (k : Int) b.phis:=⟨_,rfl⟩
   obtain ⟨a2,ha2⟩ : ∃ a2,a2 = acc ++ (zcL (k : Int) b.phis ++ zcP (k : Int) 0 b.ops):=⟨_,rfl⟩
   simp only [← ha1] at hP hO
   simp only [← ha2] at hO this
   simp -implicitDefEqProofs only [go_sem,zfX] at this hP hO
   simp -implicitDefEqProofs only [go_sem,zfX,ilt hk,gk,rb,yb,hP,hO,za hk hf.blocks,this]
end
end AC
namespace AC
open Go Go.A Go.A.Lex
theorem zsu (f : PFunc) (hf : okF f) (hB : f.params.length + (f.blocks.map fun b => b.phis.length + b.ops.length).sum ≤ 4294967296) : call T 73 [zhc f] [] = some (vUs (zL f),[]):=by
 rw [ze (fn:=zeO) rfl]
 have h0:=fun a0 a2 a5 a6 a7 a8 a9 a10 a11 a12 a13 a14 a15 => zAm f hf f.params.length 0 [] a0 a2 a5 a6 a7 a8 a9 a10 a11 a12 a13 a14 a15 (by omega) (by omega) (by simp; omega)
 have h3:=fun a0 a2 a4 a6 a7 a8 a9 a10 a11 a12 a13 a14 a15 => zyB f hf f.blocks.length 0 (zaJ 0 f.params) a0 a2 a4 a6 a7 a8 a9 a10 a11 a12 a13 a14 a15 (by omega) (by omega) (by rw [zge]; simpa using hB)
 simp only [ye,yi,yL,yr,yo] at h0 h3
 simp -implicitDefEqProofs only [go_sem,zfX] at h0 h3
 simp -implicitDefEqProofs only [go_sem,zeO,h0,h3,zL]
def zV (u : Use) : Use:=⟨u.v,u.shape,u.block,if u.at' = 1048576 then 1000 else u.at'⟩
section
variable (f : PFunc) (hf : okF f) (hret : ¬ f.ret = 0)
include hf
theorem zzk (b : PBlock) (p : PPhi) (hp : zEf p) (hlen : p.args.length = p.src.length) (i kp : Int) : ∀ (d k : Nat) (acc : List Use) (a0 a2 a9 a10 a11 a12 a13 a14 a15 a16 a17 a18 : V),p.args.length - k = d → k ≤ p.args.length → acc.length + d ≤ 4294967296 →
  exec T zb1 ⟨[a0,.one (.ptr 0 0 0 0),a2,.one (.ap 1 0 (acc.map rU)),vI i,.one (.ptr 2 0 0 0),vI kp,.one (.ptr 3 0 0 0),vI k,a9,a10,a11,a12,a13,a14,a15,a16,a17,a18],zfX f acc.length [.cells 0 5 [zq b],.cells 0 4 [zuO p]],0,0⟩ =
   some (.exit 4,⟨[vU,.one (.ptr 0 0 0 0),vU,.one (.ap 1 0 ((acc ++ (zH p k (p.args.drop k)).map zV).map rU)),vI i,.one (.ptr 2 0 0 0),vI kp,vU,vU,vU,vU,vU,vU,vU,vU,vU,vU,vU,vU],zfX f (acc ++ (zH p k (p.args.drop k)).map zV).length [.cells 0 5 [zq b],.cells 0 4 [zuO p]],0,0⟩):=by
 intro d
 induction d with
 | zero =>
   intro k acc a0 a2 a9 a10 a11 a12 a13 a14 a15 a16 a17 a18 h1 h2 hB
   have hk : k = p.args.length:=by omega
   subst hk
   rw [xl zb1 rfl,zea]
   simp -implicitDefEqProofs only [go_sem,zfX,yg,yb,yf,zH,yr,yp]
 | succ d ih =>
   intro k acc a0 a2 a9 a10 a11 a12 a13 a14 a15 a16 a17 a18 h1 h2 hB
   have hk : k < p.args.length:=by omega
   have hks : k < p.src.length:=by omega
   have hd : p.args.drop k = p.args[k] :: p.args.drop (k + 1):=ya hk
   have hlim : acc.length + 1 ≤ LIM:=by unfold LIM; omega
   have hsr : p.src.getD k 0 = p.src[k]:=by rw [yl,yD hks]; rfl
   have:=ih (k + 1) (acc ++ [⟨p.args[k],(p.bits,1),p.src[k],1000⟩]) vU vU vU vU vU vU vU vU vU vU vU vU (by omega) (by omega) (by simp; omega)
   have e1 : yz rU acc ++ [[Fz.lit (Value.int .i64 p.args[k]),Fz.lit (Value.int .i64 p.src[k]),Fz.lit (Value.int .i64 1000),Fz.lit (Value.int .i64 p.bits),Fz.lit (Value.int .i64 1)]] = yz rU (acc ++ [⟨p.args[k],(p.bits,1),p.src[k],1000⟩]):=by simp [rU]
   have e2 : (zH p k (p.args[k] :: p.args.drop (k + 1))).map zV = ⟨p.args[k],(p.bits,1),p.src[k],1000⟩ :: (zH p (k + 1) (p.args.drop (k + 1))).map zV:=by
    rw [zH,yC,hsr]
    rfl
   rw [yn,yq] at this
   rw [xl zb1 rfl,zea,hd,e2]
   simp -implicitDefEqProofs only [go_sem,zfX,yc,yd,yo,yt] at this
   simp -implicitDefEqProofs only [go_sem,zfX,ilt hk,ilt hks,zp hk,zp hks,ri,yb,za hk hp.2,hlim,e1,yc,yd,this]
theorem zzF (b : PBlock) (hb : okB b) (hab : zjc b) (i : Int) : ∀ (d k : Nat) (acc : List Use) (a0 a2 a7 a8 a9 a10 a11 a12 a13 a14 a15 a16 a17 a18 : V),b.phis.length - k = d → k ≤ b.phis.length → acc.length + (zaj (b.phis.drop k)).length ≤ 4294967296 →
  exec T zcp ⟨[a0,.one (.ptr 0 0 0 0),a2,.one (.ap 1 0 (acc.map rU)),vI i,.one (.ptr 2 0 0 0),vI k,a7,a8,a9,a10,a11,a12,a13,a14,a15,a16,a17,a18],zfX f acc.length [.cells 0 5 [zq b]],0,0⟩ =
   some (.exit 2,⟨[vU,.one (.ptr 0 0 0 0),vU,.one (.ap 1 0 ((acc ++ (zaj (b.phis.drop k)).map zV).map rU)),vI i,.one (.ptr 2 0 0 0),vU,vU,vU,vU,vU,vU,vU,vU,vU,vU,vU,vU,vU],zfX f (acc ++ (zaj (b.phis.drop k)).map zV).length [.cells 0 5 [zq b]],0,0⟩):=by
 intro d
 induction d with
 | zero =>
   intro k acc a0 a2 a7 a8 a9 a10 a11 a12 a13 a14 a15 a16 a17 a18 h1 h2 hB
   have hk : k = b.phis.length:=by omega
   subst hk
   rw [xl zcp rfl,zd0]
   simp -implicitDefEqProofs only [go_sem,zfX,yg,yb,yf,zaj,yK,yr,yp]
 | succ d ih =>
   intro k acc a0 a2 a7 a8 a9 a10 a11 a12 a13 a14 a15 a16 a17 a18 h1 h2 hB
   have hk : k < b.phis.length:=by omega
   have hd : b.phis.drop k = b.phis[k] :: b.phis.drop (k + 1):=ya hk
   have e0 : zaj (b.phis[k] :: b.phis.drop (k + 1)) = zfN b.phis[k] ++ zaj (b.phis.drop (k + 1)):=rfl
   have hp:=hb.phi _ (yh hk)
   have hle:=hab.1 _ (yh hk)
   have hpl : ∀ (l : List Int) (j : Nat),(zH b.phis[k] j l).length = l.length:=by
    intro l
    induction l with
    | nil => intro j; rfl
    | cons x l ih => intro j; rw [zH,yd,ih,yd]
   have hpu : (zfN b.phis[k]).length = b.phis[k].args.length:=hpl _ 0
   rw [hd,e0,yc,hpu] at hB
   have h0:=fun a0 a2 a9 a10 a11 a12 a13 a14 a15 a16 a17 a18 => zzk f hf b b.phis[k] hp hle i k b.phis[k].args.length 0 acc a0 a2 a9 a10 a11 a12 a13 a14 a15 a16 a17 a18 (by omega) (by omega) (by omega)
   simp only [ye,yi] at h0
   have e1 : zH b.phis[k] 0 b.phis[k].args = zfN b.phis[k]:=rfl
   rw [e1] at h0
   have:=ih (k + 1) (acc ++ (zfN b.phis[k]).map zV) vU vU vU vU vU vU vU vU vU vU vU vU vU vU (by omega) (by omega) (by rw [yc,yb,hpu]; omega)
   have e3 : acc ++ (zfN b.phis[k] ++ zaj (b.phis.drop (k + 1))).map zV = (acc ++ (zfN b.phis[k]).map zV) ++ (zaj (b.phis.drop (k + 1))).map zV:=by rw [yu,yn]
   rw [xl zcp rfl,zd0,hd,e0,e3]
   obtain ⟨a1,ha1⟩ : ∃ a1,a1 = acc ++ (zfN b.phis[k]).map zV:=⟨_,rfl⟩
   rw [← ha1] at this ⊢
   simp only [← ha1] at h0
   simp -implicitDefEqProofs only [go_sem,zfX] at h0 this
   simp -implicitDefEqProofs only [go_sem,zfX,ilt hk,zp hk,rp,yb,h0,za hk hb.phis,this]
theorem zyK (b : PBlock) (hb : okB b) (i : Int) (ko : Nat) (hko : ko < b.ops.length) (hkm : ¬ (ko : Int) = 1048576) (l : List (Int × Int)) (hl : l.length ≤ b.ops[ko].args.length) : ∀ (d k : Nat) (acc : List Use) (a0 a2 a6 a7 a8 a12 a13 a14 a15 a16 a17 a18 : V),l.length - k = d → k ≤ l.length → acc.length + d ≤ 4294967296 →
  exec T zcq ⟨[a0,.one (.ptr 0 0 0 0),a2,.one (.ap 1 0 (acc.map rU)),vI i,.one (.ptr 2 0 0 0),a6,a7,a8,vI ko,vSs l,vI k,a12,a13,a14,a15,a16,a17,a18],zfX f acc.length [.cells 0 5 [zq b]],0,0⟩ =
   some (.exit 8,⟨[vU,.one (.ptr 0 0 0 0),vU,.one (.ap 1 0 ((acc ++ (zO b.ops[ko] i ko k (l.drop k)).map zV).map rU)),vI i,.one (.ptr 2 0 0 0),vU,vU,vU,vI ko,vU,vU,vU,vU,vU,vU,vU,vU,vU],zfX f (acc ++ (zO b.ops[ko] i ko k (l.drop k)).map zV).length [.cells 0 5 [zq b]],0,0⟩):=by
 intro d
 induction d with
 | zero =>
   intro k acc a0 a2 a6 a7 a8 a12 a13 a14 a15 a16 a17 a18 h1 h2 hB
   have hk : k = l.length:=by omega
   subst hk
   rw [xl zcq rfl,zd8]
   simp -implicitDefEqProofs only [go_sem,zfX,yg,yb,yf,zO,yr,yp]
 | succ d ih =>
   intro k acc a0 a2 a6 a7 a8 a12 a13 a14 a15 a16 a17 a18 h1 h2 hB
   have hk : k < l.length:=by omega
   have hka : k < b.ops[ko].args.length:=by omega
   have hol:=(hb.op _ (yh hko)).2
   have hd : l.drop k = l[k] :: l.drop (k + 1):=ya hk
   have hlim : acc.length + 1 ≤ LIM:=by unfold LIM; omega
   have hsr : b.ops[ko].args.getD k 0 = b.ops[ko].args[k]:=by rw [yl,yD hka]; rfl
   have:=ih (k + 1) (acc ++ [⟨b.ops[ko].args[k],l[k],i,(ko : Int)⟩]) vU vU vU vU vU vU vU vU vU vU vU vU (by omega) (by omega) (by simp; omega)
   have e1 : yz rU acc ++ [[Fz.lit (Value.int .i64 b.ops[ko].args[k]),Fz.lit (Value.int .i64 i),Fz.lit (Value.int .i64 (ko : Int)),Fz.lit (Value.int .i64 l[k].1),Fz.lit (Value.int .i64 l[k].2)]] = yz rU (acc ++ [⟨b.ops[ko].args[k],l[k],i,(ko : Int)⟩]):=by simp [rU]
   have e2 : (zO b.ops[ko] i ko k (l[k] :: l.drop (k + 1))).map zV = ⟨b.ops[ko].args[k],l[k],i,(ko : Int)⟩ :: (zO b.ops[ko] i ko (k + 1) (l.drop (k + 1))).map zV:=by
    rw [zO,yC,hsr]
    unfold zV
    simp only [if_neg hkm]
   rw [yn,yq] at this
   rw [xl zcq rfl,zd8,hd,e2]
   simp -implicitDefEqProofs only [go_sem,zfX,yc,yd,yo,yt] at this
   simp -implicitDefEqProofs only [go_sem,zfX,ilt hk,ilt hka,ilt hko,zp hk,zp hka,zp hko,ri,rs,ro,yb,za hk (show l.length ≤ 4294967296 by omega),hlim,e1,yc,yd,yk,ym,this]
theorem zic (o : POp) (i at' : Int) : ∀ (l : List (Int × Int)) (k : Nat),(zO o i at' k l).length = l.length
 | [],_ => rfl
 | s :: r,k => by rw [zO,yd,zic o i at' r,yd]
theorem zzc (b : PBlock) (hb : okB b) (hab : zjc b) (hol : b.ops.length ≤ 1048576) (i : Int) : ∀ (d k : Nat) (acc : List Use) (a0 a2 a6 a7 a8 a10 a11 a12 a13 a14 a15 a16 a17 a18 : V),b.ops.length - k = d → k ≤ b.ops.length → acc.length + (zu i k (b.ops.drop k)).length ≤ 4294967296 →
  exec T zcj ⟨[a0,.one (.ptr 0 0 0 0),a2,.one (.ap 1 0 (acc.map rU)),vI i,.one (.ptr 2 0 0 0),a6,a7,a8,vI k,a10,a11,a12,a13,a14,a15,a16,a17,a18],zfX f acc.length [.cells 0 5 [zq b]],0,0⟩ =
   some (.exit 6,⟨[vU,.one (.ptr 0 0 0 0),vU,.one (.ap 1 0 ((acc ++ (zu i k (b.ops.drop k)).map zV).map rU)),vI i,.one (.ptr 2 0 0 0),vU,vU,vU,vU,vU,vU,vU,vU,vU,vU,vU,vU,vU],zfX f (acc ++ (zu i k (b.ops.drop k)).map zV).length [.cells 0 5 [zq b]],0,0⟩):=by
 intro d
 induction d with
 | zero =>
   intro k acc a0 a2 a6 a7 a8 a10 a11 a12 a13 a14 a15 a16 a17 a18 h1 h2 hB
   have hk : k = b.ops.length:=by omega
   subst hk
   rw [xl zcj rfl,zej]
   simp -implicitDefEqProofs only [go_sem,zfX,yg,yb,yf,zu,yr,yp]
 | succ d ih =>
   intro k acc a0 a2 a6 a7 a8 a10 a11 a12 a13 a14 a15 a16 a17 a18 h1 h2 hB
   have hk : k < b.ops.length:=by omega
   have hd : b.ops.drop k = b.ops[k] :: b.ops.drop (k + 1):=ya hk
   have hT:=zro b.ops[k] (hb.op _ (yh hk))
   have hle:=hab.2 _ (yh hk)
   have hou : (zkQ b.ops[k] i (k : Int)).length = (zaW b.ops[k]).length:=zic f hf _ i k _ 0
   rw [hd,zu,yc,hou] at hB
   have h0:=fun a0 a2 a6 a7 a8 a12 a13 a14 a15 a16 a17 a18 => zyK f hf b hb i k hk (by omega) (zaW b.ops[k]) hle (zaW b.ops[k]).length 0 acc a0 a2 a6 a7 a8 a12 a13 a14 a15 a16 a17 a18 (by omega) (by omega) (by omega)
   simp only [ye,yi] at h0
   have e1 : zO b.ops[k] i k 0 (zaW b.ops[k]) = zkQ b.ops[k] i k:=rfl
   rw [e1] at h0
   have:=ih (k + 1) (acc ++ (zkQ b.ops[k] i k).map zV) vU vU vU vU vU vU vU vU vU vU vU vU vU vU (by omega) (by omega) (by rw [yc,yb,hou]; omega)
   have e3 : acc ++ (zkQ b.ops[k] i k ++ zu i (k + 1) (b.ops.drop (k + 1))).map zV = (acc ++ (zkQ b.ops[k] i k).map zV) ++ (zu i (k + 1) (b.ops.drop (k + 1))).map zV:=by rw [yu,yn]
   rw [xl zcj rfl,zej,hd,zu,e3]
   obtain ⟨a1,ha1⟩ : ∃ a1,a1 = acc ++ (zkQ b.ops[k] i k).map zV:=⟨_,rfl⟩
   rw [← ha1] at this ⊢
   simp only [← ha1] at h0
   simp -implicitDefEqProofs only [go_sem] at hT
   simp -implicitDefEqProofs only [go_sem,zfX] at h0 this
   simp -implicitDefEqProofs only [go_sem,zfX,ilt hk,zp hk,ro,yb,hT,h0,za hk hb.ops,this]
include hret
theorem zAh (hab : ∀ b ∈ f.blocks,zjc b) (hol : ∀ b ∈ f.blocks,b.ops.length ≤ 1048576) : ∀ (d k : Nat) (acc : List Use) (a0 a2 a5 a6 a7 a8 a9 a10 a11 a12 a13 a14 a15 a16 a17 a18 : V),f.blocks.length - k = d → k ≤ f.blocks.length → acc.length + (zaC f k (f.blocks.drop k)).length ≤ 4294967296 →
  exec T zce ⟨[a0,.one (.ptr 0 0 0 0),a2,.one (.ap 1 0 (acc.map rU)),vI k,a5,a6,a7,a8,a9,a10,a11,a12,a13,a14,a15,a16,a17,a18],zfX f acc.length [],0,0⟩ =
   some (.exit 0,⟨[vU,vU,vU,.one (.ap 1 0 ((acc ++ (zaC f k (f.blocks.drop k)).map zV).map rU)),vU,vU,vU,vU,vU,vU,vU,vU,vU,vU,vU,vU,vU,vU,vU],zfX f (acc ++ (zaC f k (f.blocks.drop k)).map zV).length [],0,0⟩):=by
 intro d
 induction d with
 | zero =>
   intro k acc a0 a2 a5 a6 a7 a8 a9 a10 a11 a12 a13 a14 a15 a16 a17 a18 h1 h2 hB
   have hk : k = f.blocks.length:=by omega
   subst hk
   rw [xl zce rfl,zeq]
   simp -implicitDefEqProofs only [go_sem,zfX,yg,yb,yf,zaC,yr,yp]
 | succ d ih =>
   intro k acc a0 a2 a5 a6 a7 a8 a9 a10 a11 a12 a13 a14 a15 a16 a17 a18 h1 h2 hB
   have hk : k < f.blocks.length:=by omega
   have hd : f.blocks.drop k = f.blocks[k] :: f.blocks.drop (k + 1):=ya hk
   have hbm:=yh hk
   obtain ⟨b,hb'⟩ : ∃ b,b = f.blocks[k]:=⟨_,rfl⟩
   have gk:=zp (r:=rb) hk
   rw [← hb'] at hbm gk
   have hb:=hf.block _ hbm
   rw [hd,zaC,← hb',zgQ,yc,yc,yc] at hB
   have hP:=fun a0 a2 a7 a8 a9 a10 a11 a12 a13 a14 a15 a16 a17 a18 => zzF f hf b hb (hab b hbm) k b.phis.length 0 acc a0 a2 a7 a8 a9 a10 a11 a12 a13 a14 a15 a16 a17 a18 (by omega) (by omega) (by rw [yi]; omega)
   have hO:=fun a0 a2 a6 a7 a8 a10 a11 a12 a13 a14 a15 a16 a17 a18 => zzc f hf b hb (hab b hbm) (hol b hbm) k b.ops.length 0 (acc ++ (zaj b.phis).map zV) a0 a2 a6 a7 a8 a10 a11 a12 a13 a14 a15 a16 a17 a18 (by omega) (by omega) (by rw [yi,yc,yb]; omega)
   have:=ih (k + 1) (acc ++ (zaj b.phis).map zV ++ (zu k 0 b.ops).map zV ++ (zbr f k b).map zV) vU vU vU vU vU vU vU vU vU vU vU vU vU vU vU vU (by omega) (by omega) (by simp only [yc,yb]; omega)
   simp only [ye,yi] at hP hO
   have e3 : acc ++ (zgQ f k b ++ zaC f (k + 1) (f.blocks.drop (k + 1))).map zV = (acc ++ (zaj b.phis).map zV ++ (zu k 0 b.ops).map zV ++ (zbr f k b).map zV) ++ (zaC f (k + 1) (f.blocks.drop (k + 1))).map zV:=by
    rw [zgQ]
    simp only [yu,yn]
   rw [xl zce rfl,zeq,hd,zaC,← hb',e3]
   obtain ⟨a1,ha1⟩ : ∃ a1,a1 = acc ++ (zaj b.phis).map zV:=⟨_,rfl⟩
   rw [← ha1] at this ⊢
   simp only [← ha1] at hP hO
   obtain ⟨a2,ha2⟩ : ∃ a2,a2 = a1 ++ (zu k 0 b.ops).map zV:=⟨_,rfl⟩
   rw [← ha2] at this ⊢
   simp only [← ha2] at hO
   have ha2l : a2.length + (zbr f k b).length ≤ 4294967296:=by
    rw [ha2,ha1]
    simp only [yc,yb]
    omega
   simp -implicitDefEqProofs only [go_sem,zfX] at hP hO
   by_cases c0 : b.kind = 0
   ·have e0 : (zbr f k b).map zV = [⟨b.arg,(f.ret,1),(k : Int),1000⟩]:=by
     unfold zbr ziQ
     rw [if_pos c0,if_neg hret]
     rfl
    have el : (zbr f k b).length = 1:=by
     have:=congrArg yy e0
     simpa using this
    have hlim : a2.length + 1 ≤ LIM:=by unfold LIM; omega
    have n2 : ¬ b.kind = 2:=by omega
    rw [e0] at this ⊢
    have e1 : yz rU a2 ++ [[Fz.lit (Value.int .i64 b.arg),Fz.lit (Value.int .i64 (k : Int)),Fz.lit (Value.int .i64 1000),Fz.lit (Value.int .i64 f.ret),Fz.lit (Value.int .i64 1)]] = yz rU (a2 ++ [⟨b.arg,(f.ret,1),(k : Int),1000⟩]):=by simp [rU]
    simp -implicitDefEqProofs only [go_sem,zfX,yc,yd,yo,yt] at this
    simp -implicitDefEqProofs only [go_sem,zfX,ilt hk,gk,rb,yb,hP,hO,eq_true c0,n2,hlim,e1,za hk hf.blocks,yc,yd,this]
   ·by_cases c2 : b.kind = 2
    ·have e0 : (zbr f k b).map zV = [⟨b.arg,(1,1),(k : Int),1000⟩]:=by
      unfold zbr ziQ
      rw [if_neg c0,if_pos c2]
      rfl
     have el : (zbr f k b).length = 1:=by
      have:=congrArg yy e0
      simpa using this
     have hlim : a2.length + 1 ≤ LIM:=by unfold LIM; omega
     rw [e0] at this ⊢
     have e1 : yz rU a2 ++ [[Fz.lit (Value.int .i64 b.arg),Fz.lit (Value.int .i64 (k : Int)),Fz.lit (Value.int .i64 1000),Fz.lit (Value.int .i64 1),Fz.lit (Value.int .i64 1)]] = yz rU (a2 ++ [⟨b.arg,(1,1),(k : Int),1000⟩]):=by simp [rU]
     simp -implicitDefEqProofs only [go_sem,zfX,yc,yd,yo,yt] at this
     simp -implicitDefEqProofs only [go_sem,zfX,ilt hk,gk,rb,yb,hP,hO,c0,eq_true c2,hlim,e1,za hk hf.blocks,yc,yd,this]
    ·have e0 : zbr f k b = []:=by
      unfold zbr ziQ
      rw [if_neg c0,if_neg c2]
      rfl
     rw [e0,yr,yp] at this ⊢
     simp -implicitDefEqProofs only [go_sem,zfX] at this
     simp -implicitDefEqProofs only [go_sem,zfX,ilt hk,gk,rb,yb,hP,hO,c0,c2,za hk hf.blocks,this]
theorem ztw (hab : ∀ b ∈ f.blocks,zjc b) (hol : ∀ b ∈ f.blocks,b.ops.length ≤ 1048576) (hB : (zfb f).length ≤ 4294967296) : call T 76 [zhc f] [] = some (vUs ((zfb f).map zV),[]):=by
 rw [ze (fn:=zeJ) rfl]
 have h:=fun a0 a2 a5 a6 a7 a8 a9 a10 a11 a12 a13 a14 a15 a16 a17 a18 => zAh f hf hret hab hol f.blocks.length 0 [] a0 a2 a5 a6 a7 a8 a9 a10 a11 a12 a13 a14 a15 a16 a17 a18 (by omega) (by omega) (by simpa [zfb] using hB)
 have e : zaC f 0 f.blocks = zfb f:=rfl
 simp only [ye,yi,yL,yr,yo,e] at h
 simp -implicitDefEqProofs only [go_sem,zfX] at h
 simp -implicitDefEqProofs only [go_sem,zeJ,h]
end
end AC
namespace AC
open Go Go.A Go.A.Lex
def rbo (b : Bool) : List Fz:=[.lit (.bool b)]
def zfD (b : Bool) : List C:=[.f (.lit (.bool b))]
abbrev vBs (l : List Bool) : V:=.one (.f (.sl (l.map rbo)))
attribute [go_sem] vBs
theorem zq6 (l : List Bool) : zaq (l.map zfD) = some (l.map rbo):=by
 induction l with
 | nil => rfl
 | cons x l ih => rw [yC,zaq,ih]; rfl
theorem zEk {l : List Bool} {k : Nat} (h : k < l.length) : (l.map zfD)[k]? = some [.f (.lit (.bool (l.getD k false)))]:=by simp [h,zfD]
def mark (w : Int) (out : List Bool) (y : Int) : List Bool:=if y = w then out else out.set y.toNat true
theorem zll (w : Int) (out : List Bool) (y : Int) : (mark w out y).length = out.length:=by unfold mark; split <;> simp
theorem zhp (w : Int) : ∀ (l : List Int) (out : List Bool),(l.foldl (mark w) out).length = out.length
 | [],_ => rfl
 | y :: l,out => by rw [yB,zhp w l,zll]
theorem zsP {w : Int} {out : List Bool} {y : Int} {i : Nat} (h : out.getD i false = true) : (mark w out y).getD i false = true:=by
 unfold mark
 split
 ·exact h
 ·have hi : i < out.length:=by
   rcases Nat.lt_or_ge i out.length with h1 | h1
   ·exact h1
   ·rw [yl,yx h1] at h
    cases h
  by_cases c : y.toNat = i
  ·rw [c,yl,List.getElem?_set_self hi]
   rfl
  ·rw [yl,yF c,← yl]
   exact h
def zi9 (w : Int) : Nat → List (List Int) → List Bool → List Bool
 | _,[],out => out
 | i,l :: r,out => zi9 w (i + 1) r (if out.getD i false = true then l.foldl (mark w) out else out)
theorem zhy (w : Int) : ∀ (r : List (List Int)) (i : Nat) (out : List Bool),(zi9 w i r out).length = out.length
 | [],_,_ => rfl
 | l :: r,i,out => by
   rw [zi9,zhy w r]
   split
   ·exact zhp w l out
   ·rfl
def zeV (w : Int) (succ : List (List Int)) : Nat → List Bool → List Bool
 | 0,out => out
 | r + 1,out => zeV w succ r (zi9 w 0 succ out)
theorem zgx (w : Int) (succ : List (List Int)) : ∀ (r : Nat) (out : List Bool),(zeV w succ r out).length = out.length
 | 0,_ => rfl
 | r + 1,out => by rw [zeV,zgx w succ r,zhy]
def zdn (succ : List (List Int)) (root w : Int) : List Bool:=if root = w then yj succ.length false else zeV w succ succ.length ((yj succ.length false).set root.toNat true)
section
variable (succ pred : List (List Int)) (hn : succ.length ≤ 4294967296) (hl : ∀ l ∈ succ,l.length ≤ 4294967296) (hr : ∀ l ∈ succ,∀ y ∈ l,0 ≤ y ∧ y < (succ.length : Int)) (w : Int)
abbrev zqX : Ob:=.cells 0 2 [[.f (.sl (succ.map rl)),.f (.sl (pred.map rl))]]
abbrev zpm (out : List Bool) : zd:=[zqX succ pred,.cells 0 1 (out.map zfD)]
include hn hl hr
theorem zBT (R : Int) (i : Nat) (hi : i < succ.length) : ∀ (d k : Nat) (out : List Bool) (a0 a1 a4 a9 a10 a11 a12 a13 : V),out.length = succ.length → out.getD i false = true → succ[i].length - k = d → k ≤ succ[i].length →
  exec T zah ⟨[a0,a1,vI w,.one (.ptr 0 0 0 0),a4,.one (.own 1 0 0 succ.length),vI R,vI i,vI k,a9,a10,a11,a12,a13],zpm succ pred out,0,0⟩ =
   some (.exit 4,⟨[vU,vU,vI w,.one (.ptr 0 0 0 0),vU,.one (.own 1 0 0 succ.length),vI R,vI i,vU,vU,vU,vU,vU,vU],zpm succ pred ((succ[i].drop k).foldl (mark w) out),0,0⟩):=by
 intro d
 induction d with
 | zero =>
   intro k out a0 a1 a4 a9 a10 a11 a12 a13 ho ht h1 h2
   have hk : k = succ[i].length:=by omega
   subst hk
   have gB:=zEk (l:=out) (k:=i) (by omega)
   rw [ht] at gB
   rw [xl zah rfl,zbz]
   simp -implicitDefEqProofs only [go_sem,zpm,zqX,ilt hi,zp hi,rl,gB,yg,yb,yf,yN,yk,ym]
 | succ d ih =>
   intro k out a0 a1 a4 a9 a10 a11 a12 a13 ho ht h1 h2
   have hk : k < succ[i].length:=by omega
   have hd : succ[i].drop k = succ[i][k] :: succ[i].drop (k + 1):=ya hk
   have gB:=zEk (l:=out) (k:=i) (by omega)
   rw [ht] at gB
   obtain ⟨y,hy⟩ : ∃ y,y = succ[i][k]:=⟨_,rfl⟩
   have ry:=hr _ (yh hi) _ (yh hk)
   have hll:=hl _ (yh hi)
   rw [← hy] at ry
   have gY:=zEk (l:=out) (k:=y.toNat) (by omega)
   have:=ih (k + 1) (mark w out y) vU vU vU vU vU vU vU vU (by rw [zll]; exact ho) (zsP ht) (by omega) (by omega)
   have y0 : ¬ y < 0:=by omega
   have y1:=ry.1
   have y2:=ry.2
   have hset : (out.map zfD).set y.toNat [C.f (.lit (.bool true))] = (out.set y.toNat true).map zfD:=by rw [yG]; rfl
   rw [xl zah rfl,zbz,hd,yB,← hy]
   have gk:=zp (r:=ri) hk
   rw [← hy] at gk
   by_cases c : y = w
   ·simp -implicitDefEqProofs only [go_sem,zpm,zqX,mark,c] at this
    simp -implicitDefEqProofs only [go_sem,zpm,zqX,ilt hi,ilt hk,zp hi,gk,ri,rl,gB,yb,yk,ym,za hk hll,mark,c,this]
   ·simp -implicitDefEqProofs only [go_sem,zpm,zqX,mark,c] at this
    simp -implicitDefEqProofs only [go_sem,zpm,zqX,ilt hi,ilt hk,zp hi,gk,ri,rl,gB,yb,yk,ym,za hk hll,mark,c,y1,y2,gY,hset,this]
theorem zuA (R : Int) (i : Nat) (hi : i < succ.length) (out : List Bool) (ho : out.length = succ.length) (ht : out.getD i false = false) a0 a1 a4 a9 a10 a11 a12 a13 :
  exec T zah ⟨[a0,a1,vI w,.one (.ptr 0 0 0 0),a4,.one (.own 1 0 0 succ.length),vI R,vI i,vI 0,a9,a10,a11,a12,a13],zpm succ pred out,0,0⟩ =
   some (.exit 4,⟨[vU,vU,vI w,.one (.ptr 0 0 0 0),vU,.one (.own 1 0 0 succ.length),vI R,vI i,vU,vU,vU,vU,vU,vU],zpm succ pred out,0,0⟩):=by
 have gB:=zEk (l:=out) (k:=i) (by omega)
 rw [ht] at gB
 rw [xl zah rfl,zbz]
 simp -implicitDefEqProofs only [go_sem,zpm,zqX,ilt hi,gB,yk,ym]
theorem zAK (R : Int) : ∀ (d k : Nat) (out : List Bool) (a0 a1 a4 a8 a9 a10 a11 a12 a13 : V),out.length = succ.length → succ.length - k = d → k ≤ succ.length →
  exec T zbD ⟨[a0,a1,vI w,.one (.ptr 0 0 0 0),a4,.one (.own 1 0 0 succ.length),vI R,vI k,a8,a9,a10,a11,a12,a13],zpm succ pred out,0,0⟩ =
   some (.exit 2,⟨[vU,vU,vI w,.one (.ptr 0 0 0 0),vU,.one (.own 1 0 0 succ.length),vI R,vU,vU,vU,vU,vU,vU,vU],zpm succ pred (zi9 w k (succ.drop k) out),0,0⟩):=by
 intro d
 induction d with
 | zero =>
   intro k out a0 a1 a4 a8 a9 a10 a11 a12 a13 ho h1 h2
   have hk : k = succ.length:=by omega
   subst hk
   rw [xl zbD rfl,zdA]
   simp -implicitDefEqProofs only [go_sem,zpm,zqX,yg,yb,yf,zi9]
 | succ d ih =>
   intro k out a0 a1 a4 a8 a9 a10 a11 a12 a13 ho h1 h2
   have hk : k < succ.length:=by omega
   have hd : succ.drop k = succ[k] :: succ.drop (k + 1):=ya hk
   rw [xl zbD rfl,zdA,hd,zi9]
   cases c : out.getD k false
   ·have h0:=fun a0 a1 a4 a9 a10 a11 a12 a13 => zuA succ pred hn hl hr w R k hk out ho c a0 a1 a4 a9 a10 a11 a12 a13
    have:=ih (k + 1) out vU vU vU vU vU vU vU vU vU ho (by omega) (by omega)
    simp -implicitDefEqProofs only [go_sem,zpm,zqX] at h0 this
    simp -implicitDefEqProofs only [go_sem,zpm,zqX,ilt hk,h0,za hk hn,this]
   ·have h0:=fun a0 a1 a4 a9 a10 a11 a12 a13 => zBT succ pred hn hl hr w R k hk succ[k].length 0 out a0 a1 a4 a9 a10 a11 a12 a13 ho c (by omega) (by omega)
    simp only [ye,yi] at h0
    have:=ih (k + 1) (succ[k].foldl (mark w) out) vU vU vU vU vU vU vU vU vU (by rw [zhp]; exact ho) (by omega) (by omega)
    simp -implicitDefEqProofs only [go_sem,zpm,zqX] at h0 this
    simp -implicitDefEqProofs only [go_sem,zpm,zqX,ilt hk,h0,za hk hn,this]
theorem zAA : ∀ (d k : Nat) (out : List Bool) (a0 a1 a4 a7 a8 a9 a10 a11 a12 a13 : V),out.length = succ.length → succ.length - k = d → k ≤ succ.length →
  exec T zbv ⟨[a0,a1,vI w,.one (.ptr 0 0 0 0),a4,.one (.own 1 0 0 succ.length),vI k,a7,a8,a9,a10,a11,a12,a13],zpm succ pred out,0,0⟩ =
   some (.exit 0,⟨[vU,vU,vU,vU,vU,.one (.own 1 0 0 succ.length),vU,vU,vU,vU,vU,vU,vU,vU],zpm succ pred (zeV w succ d out),0,0⟩):=by
 intro d
 induction d with
 | zero =>
   intro k out a0 a1 a4 a7 a8 a9 a10 a11 a12 a13 ho h1 h2
   have hk : k = succ.length:=by omega
   subst hk
   rw [xl zbv rfl,zdI]
   simp -implicitDefEqProofs only [go_sem,zpm,zqX,yg,yb,zeV]
 | succ d ih =>
   intro k out a0 a1 a4 a7 a8 a9 a10 a11 a12 a13 ho h1 h2
   have hk : k < succ.length:=by omega
   rw [xl zbv rfl,zdI,zeV]
   have h0:=fun a0 a1 a4 a8 a9 a10 a11 a12 a13 => zAK succ pred hn hl hr w k succ.length 0 out a0 a1 a4 a8 a9 a10 a11 a12 a13 ho (by omega) (by omega)
   simp only [ye,yi] at h0
   have:=ih (k + 1) (zi9 w 0 succ out) vU vU vU vU vU vU vU vU vU vU (by rw [zhy]; exact ho) (by omega) (by omega)
   simp -implicitDefEqProofs only [go_sem,zpm,zqX] at h0 this
   simp -implicitDefEqProofs only [go_sem,zpm,zqX,ilt hk,h0,za hk hn,this]
theorem zm6 (root : Int) (h0 : 0 ≤ root ∧ root < (succ.length : Int)) : call T 124 [.agg [.f (.sl (succ.map rl)),.f (.sl (pred.map rl))],vI root,vI w] [] = some (vBs (zdn succ root w),[]):=by
 rw [ze (fn:=zck) rfl]
 have hz : yj succ.length [C.f (.lit (.bool false))] = (yj succ.length false).map zfD:=by rw [yH]; rfl
 have hlim : (succ.length : Int) ≤ (LIM : Int):=by unfold LIM; omega
 have hf:=fun l => zq6 l
 obtain ⟨r0,r1⟩:=h0
 by_cases c : root = w
 ·have ht : ((yj succ.length false).map zfD).take succ.length = (yj succ.length false).map zfD:=ys (by simp)
  simp -implicitDefEqProofs only [go_sem,zck,hlim,yk,ym,yb,hz,c,ht,hf,zdn]
 ·have gB:=zEk (l:=yj succ.length false) (k:=root.toNat) (by simp; omega)
  have hset : ((yj succ.length false).map zfD).set root.toNat [C.f (.lit (.bool true))] = ((yj succ.length false).set root.toNat true).map zfD:=by rw [yG]; rfl
  have h:=fun a0 a1 a4 a7 a8 a9 a10 a11 a12 a13 => zAA succ pred hn hl hr w succ.length 0 ((yj succ.length false).set root.toNat true) a0 a1 a4 a7 a8 a9 a10 a11 a12 a13 (by simp) (by omega) (by omega)
  simp only [ye] at h
  obtain ⟨res,hres⟩ : ∃ res,res = zeV w succ succ.length ((yj succ.length false).set root.toNat true):=⟨_,rfl⟩
  have hlr : res.length = succ.length:=by rw [hres,zgx]; simp
  have ht : (res.map zfD).take succ.length = res.map zfD:=ys (by simp [hlr])
  have e : zdn succ root w = res:=by unfold zdn; rw [if_neg c,hres]
  rw [e]
  rw [← hres] at h
  simp -implicitDefEqProofs only [go_sem,zpm,zqX] at h
  simp -implicitDefEqProofs only [go_sem,zck,hlim,yk,ym,yb,hz,c,r0,r1,gB,hset,h,ht,hf]
end
end AC
