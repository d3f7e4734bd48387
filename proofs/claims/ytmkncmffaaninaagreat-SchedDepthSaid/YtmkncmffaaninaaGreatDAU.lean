/- A part of the proof of SchedDepth. Conditions: none. -/
import Derived.Test.YtmkncmffaaninaaGreatDAT
set_option linter.unusedVariables false
set_option linter.unusedSimpArgs false
set_option linter.unusedSectionVars false
open List renaming drop_eq_getElem_cons → ya,replicate → yb,length_cons → yd,getElem_mem → ye,drop_length → yf,drop_zero → yh,take_succ_eq_append_getElem → yi,count_cons_self → yj,length → yk,take_of_length_le → yl,count_cons_of_ne → ym,getElem?_eq_none → yn,map_append → yo,foldl_cons → ys,take_zero → yu,mem_cons → yv,sum_cons → yx,map_set → yy,mem_map → yz,map → yA
open Int renaming natCast_zero → yc,lt_irrefl → yg,natCast_nonneg → yp,toNat_natCast → yq
open Bool renaming not_eq_true' → yr
open Nat renaming add_assoc → yt,add_comm → yw
namespace AC
def tr (t : List Int) (a : Int) : Int:=t.getD a.toNat (-2)
def zX (t : List Int) : Nat → Int → Int → Option Int
 | 0,_,_ => none
 | r + 1,n,a => if a < 0 then some (-1) else if (t.length : Int) ≤ a then some (-1) else if tr t a = -1 then some n else zX t r (n + 1) (tr t a)
def zE (t : List Int) (a : Int) : Int:=(zX t t.length 0 a).getD (-1)
def zaE (t : List Int) : Nat → Nat → List Int → Option Nat
 | _,n,[] => some n
 | k,n,x :: r => if x = -2 then zaE t (k + 1) n r else if zE t k < 0 then none else zaE t (k + 1) (if x = -1 then n + 1 else n) r
def zgp (t : List Int) : Bool:=zaE t 0 0 t == some 1
def inS (t : List Int) (l : List Int) : Bool:=zgp t && !l.any fun a => decide (zE t a < 0)
def ziD (t : List Int) : Nat → Int → Int → Int
 | 0,a,_ => a
 | r + 1,a,b => if a = b then a else if zE t b ≤ zE t a then ziD t r (tr t a) b else ziD t r a (tr t b)
def zwH (t : List Int) (a b : Int) : Int:=if inS t [a,b] = true then ziD t (zE t a + zE t b).toNat a b else -2
def zky (t : List Int) (a b : Int) : Bool:=inS t [a,b] && decide (zwH t a b = a)
def inR (n : Nat) (a : Int) : Bool:=decide (0 ≤ a) && decide (a < n)
def zor (t at' : List Int) : Nat → Int → Int → Option Int
 | 0,_,_ => none
 | r + 1,a,b => if inR t.length a && (inR at'.length a && inR at'.length b) then (if tr at' b < tr at' a then zor t at' r (tr t a) b else some a) else none
def zsy (t at' : List Int) (K : Nat) : Nat → Int → Int → Option Int
 | 0,_,_ => none
 | r + 1,a,b => if a = b then some a else match zor t at' K a b with
   | none => none
   | some a' => match zor t at' K b a' with
     | none => none
     | some b' => zsy t at' K r a' b'
def zlP (t at' : List Int) (K : Nat) : List Int → Int → Option Int
 | [],b => some b
 | p :: r,b => if inR t.length p = true then (if tr t p = -2 then zlP t at' K r b else if b = -2 then zlP t at' K r p else match zsy t at' K K b p with
   | none => none
   | some c => zlP t at' K r c) else none
def zro (pred : List (List Int)) (t at' : List Int) (K : Nat) : List Int → Option (Option (Int × Int))
 | [] => some none
 | x :: r => if inR t.length x = true then (match zlP t at' K (pred.getD x.toNat []) (-2) with
   | none => none
   | some b => if tr t x = b then zro pred t at' K r else some (some (x,b))) else none
def zg6 (pred : List (List Int)) (at' : List Int) (K : Nat) (tail : List Int) : Nat → List Int → Option (List Int)
 | 0,_ => none
 | r + 1,t => match zro pred t at' K tail with
   | none => none
   | some none => some t
   | some (some (x,b)) => zg6 pred at' K tail r (t.set x.toNat b)
theorem zkP {pred : List (List Int)} {at' : List Int} {K : Nat} {tail : List Int} : ∀ {r : Nat} {t t' : List Int},zg6 pred at' K tail r t = some t' → t'.length = t.length
 | 0,_,_,h => by simp [zg6] at h
 | r + 1,t,t',h => by
   simp only [zg6] at h
   split at h
   ·cases h
   ·injection h with h; rw [h]
   ·rw [zkP h]; simp
def zjX : Nat → List Int → List Int → List Int
 | _,[],at' => at'
 | i,x :: r,at' => zjX (i + 1) r (at'.set x.toNat (i : Int))
theorem ziU : ∀ (l : List Int) (i : Nat) (a : List Int),(zjX i l a).length = a.length
 | [],_,_ => rfl
 | x :: r,i,a => by rw [zjX,ziU r]; simp
def zkw (n root : Nat) : List Int:=(yb n (-2 : Int)).set root root
def at0 (n : Nat) (order : List Int) : List Int:=zjX 0 order (yb n 0)
def scan (seen : List Bool) : List Int → Nat → Option (Int × Nat)
 | [],_ => none
 | y :: r,j => if seen.getD y.toNat false = true then scan seen r (j + 1) else some (y,j + 1)
structure DF where
 seen : List Bool
 next : List Nat
 out : List Int
 stk : List Int
def zw6 (succ : List (List Int)) (x : Int) : Nat:=(succ.getD x.toNat []).length
def zf0 (succ : List (List Int)) (d : DF) (x : Int) : Option (Int × Nat):=scan d.seen ((succ.getD x.toNat []).drop (d.next.getD x.toNat 0)) (d.next.getD x.toNat 0)
def dfs (succ : List (List Int)) : Nat → DF → Option (List Int)
 | 0,_ => none
 | k + 1,d => match d.stk with
   | [] => none
   | x :: s => match zf0 succ d x with
     | some (y,j) => dfs succ k ⟨d.seen.set y.toNat true,d.next.set x.toNat j,d.out,y :: x :: s⟩
     | none => match s with
       | [] => some (d.out ++ [x])
       | _ :: _ => dfs succ k ⟨d.seen,d.next.set x.toNat (zw6 succ x),d.out ++ [x],s⟩
structure DInv (succ : List (List Int)) (d : DF) : Prop where
 seen : d.seen.length = 64
 next : d.next.length = 64
 le : ∀ X,X < succ.length → d.next.getD X 0 ≤ (succ.getD X []).length
 stk : ∀ x ∈ d.stk,0 ≤ x ∧ x < (succ.length : Int)
theorem zxJ {seen : List Bool} : ∀ {l : List Int} {k : Nat} {y : Int} {j : Nat},scan seen l k = some (y,j) → k < j ∧ j ≤ k + l.length ∧ y ∈ l
 | [],_,_,_,h => by simp [scan] at h
 | z :: r,k,y,j,h => by
   simp only [scan] at h
   split at h
   ·have:=zxJ h
    simp only [yd,yv]
    exact ⟨by omega,by omega,.inr this.2.2⟩
   ·simp only [Option.some.injEq,Prod.mk.injEq] at h
    obtain ⟨rfl,rfl⟩:=h
    simp
def zp0 : List Bool:=yb 64 false
def znQ : List Nat:=yb 64 0
def zsn (root : Int) : DF:=⟨zp0.set root.toNat true,znQ,[],[root]⟩
def ztG (i : Int) (out : List (List Int)) (x : Int) : List (List Int):=out.set x.toNat (out.getD x.toNat [] ++ [i])
theorem zfL (i : Int) (out : List (List Int)) (x : Int) : (ztG i out x).length = out.length:=by simp [ztG]
theorem zf7 (i : Int) : ∀ (l : List Int) (out : List (List Int)),(l.foldl (ztG i) out).length = out.length
 | [],_ => rfl
 | x :: r,out => by rw [ys,zf7 i r,zfL]
def za9 : Nat → List (List Int) → List (List Int) → List (List Int)
 | _,[],out => out
 | i,l :: r,out => za9 (i + 1) r (l.foldl (ztG i) out)
def zM (succ : List (List Int)) : List (List Int):=za9 0 succ (yb succ.length [])
theorem zgf : ∀ (l : List (List Int)) (i : Nat) (out : List (List Int)),(za9 i l out).length = out.length
 | [],_,_ => rfl
 | x :: r,i,out => by rw [za9,zgf r,zf7]
theorem zb0 (succ : List (List Int)) : (zM succ).length = succ.length:=by rw [zM,zgf]; simp
def zjo (succ : List (List Int)) : Prop:=succ.length ≤ 4294967296 ∧ ∀ l ∈ succ,l.length ≤ 4294967296
def zP (n : Int) : Int → List Int → Bool
 | _,[] => true
 | last,x :: r => if x ≤ last ∨ n ≤ x then false else zP n x r
def rising (l : List Int) (n : Int) : Bool:=zP n (-1) l
def zbk (succ : List (List Int)) : Bool:=!(decide (succ.length < 1) || (decide (64 < succ.length) || succ.any fun l => !rising l succ.length))
def zAr (succ pred : List (List Int)) : Bool:=zbk succ && decide (zM succ = pred)
def zlZ (k : Int) : Int:=if k = 0 ∨ k = 3 then 0 else if k = 1 then 1 else if k = 2 then 2 else -1
def zks (n k : Int) : Bool:=decide (k < 1) || decide (n ≤ k)
theorem zbh {α : Type} {l : List α} {i : Nat} (v d : α) (h : i < l.length) : (l.set i v).getD i d = v:=by simp [h]
theorem getD_set_ne {α : Type} {l : List α} {i j : Nat} (v d : α) (h : i ≠ j) : (l.set i v).getD j d = l.getD j d:=by simp [List.getElem?_set_ne h]
end AC
namespace AC
theorem zl9 (t : List Int) : ∀ (r : Nat) (n a m : Int),0 ≤ n → zX t r n a = some m → m = -1 ∨ n ≤ m
 | 0,_,_,_,_,h => by simp [zX] at h
 | r + 1,n,a,m,hn,h => by
   simp only [zX] at h
   split at h
   ·simp at h; omega
   split at h
   ·simp at h; omega
   split at h
   ·simp at h; omega
   ·have:=zl9 t r (n + 1) _ m (by omega) h
    omega
theorem zmq (t : List Int) : ∀ (r : Nat) (n a m : Int),0 ≤ n → 0 ≤ m → zX t r (n + 1) a = some m → zX t r n a = some (m - 1)
 | 0,_,_,_,_,_,h => by simp [zX] at h
 | r + 1,n,a,m,hn,hm,h => by
   simp only [zX] at h ⊢
   split at h
   ·simp at h; omega
   split at h
   ·simp at h; omega
   split at h
   ·rename_i h1 h2 h3
    simp only [h1,h2,h3,if_true,if_false,Option.some.injEq] at h ⊢
    omega
   ·rename_i h1 h2 h3
    simp only [h1,h2,h3,if_false]
    exact zmq t r (n + 1) _ m (by omega) hm h
theorem zl8 (t : List Int) : ∀ (r : Nat) (n a m : Int),zX t r n a = some m → zX t (r + 1) n a = some m
 | 0,_,_,_,h => by simp [zX] at h
 | r + 1,n,a,m,h => by
   rw [zX] at h ⊢
   split at h
   ·rename_i h1; simp only [h1,if_true]; exact h
   split at h
   ·rename_i h1 h2; simp only [h1,h2,if_true,if_false]; exact h
   split at h
   ·rename_i h1 h2 h3; simp only [h1,h2,h3,if_true,if_false]; exact h
   ·rename_i h1 h2 h3
    simp only [h1,h2,h3,if_false]
    exact zl8 t r (n + 1) _ m h
theorem zom {t : List Int} {a : Int} (h : 0 ≤ zE t a) : zX t t.length 0 a = some (zE t a):=by
 unfold zE at h ⊢
 cases e : zX t t.length 0 a with
 | none => rw [e] at h; simp at h
 | some m => rfl
theorem zgJ {t : List Int} {a : Int} (h : 0 ≤ zE t a) : 0 ≤ a ∧ a < t.length:=by
 have:=zom h
 cases ht : t.length with
 | zero => rw [ht] at this; simp [zX] at this
 | succ r =>
   rw [ht,zX] at this
   split at this
   ·simp at this; omega
   split at this
   ·simp at this; omega
   ·rename_i h1 h2
    rw [ht] at h2
    omega
theorem zjZ {t : List Int} {a : Int} (h0 : 0 ≤ a) (h1 : a < t.length) (h : tr t a = -1) : zE t a = 0:=by
 unfold zE
 cases ht : t.length with
 | zero => omega
 | succ r =>
   rw [zX,if_neg (by omega),if_neg (by omega),if_pos h]
   rfl
theorem ze9 {t : List Int} {a : Int} (h : 0 ≤ zE t a) (hn : tr t a ≠ -1) : 1 ≤ zE t a ∧ zE t (tr t a) = zE t a - 1:=by
 have hs:=zom h
 obtain ⟨h0,h1⟩:=zgJ h
 cases ht : t.length with
 | zero => omega
 | succ r =>
   rw [ht,zX,if_neg (by omega),if_neg (by omega),if_neg hn] at hs
   have h2:=zl9 t r (0 + 1) _ _ (by omega) hs
   have h3:=zl8 t r _ _ _ (zmq t r 0 _ _ (by omega) h hs)
   refine ⟨by omega,?_⟩
   rw [← ht] at h3
   rw [zE,h3]
   rfl
theorem zg8 {t : List Int} {a : Int} (h : zE t a = 0) : tr t a = -1:=by
 by_cases c : tr t a = -1
 ·exact c
 ·have:=ze9 (by omega) c
  omega
theorem zfu (t : List Int) : ∀ (l : List Int) (k n m : Nat),zaE t k n l = some m → m = n + l.count (-1)
 | [],_,_,_,h => by simp [zaE] at h; simp [h]
 | x :: r,k,n,m,h => by
   simp only [zaE] at h
   split at h
   ·rename_i hx
    subst hx
    rw [zfu t r _ _ _ h,ym (by decide)]
   split at h
   ·cases h
   ·split at h
    ·rename_i hx
     subst hx
     rw [zfu t r _ _ _ h,yj]
     omega
    ·rename_i hx
     rw [zfu t r _ _ _ h,ym (by simpa using hx)]
theorem zsA {x : Int} : ∀ (l : List Int),l.count x ≤ 1 → ∀ i j (hi : i < l.length) (hj : j < l.length),l[i] = x → l[j] = x → i = j
 | [],_,i,_,hi,_,_,_ => by simp at hi
 | y :: r,h,i,j,hi,hj,e1,e2 => by
   have pos : ∀ k (hk : k < r.length),r[k] = x → 1 ≤ r.count x:=fun k hk e => by
    have : x ∈ r:=by rw [← e]; exact ye hk
    exact List.count_pos_iff.2 this
   cases i with
   | zero =>
     cases j with
     | zero => rfl
     | succ j =>
       simp at e1 e2
       subst e1
       rw [yj] at h
       have:=pos j (by simpa using hj) e2
       omega
   | succ i =>
     cases j with
     | zero =>
       simp at e1 e2
       subst e2
       rw [yj] at h
       have:=pos i (by simpa using hi) e1
       omega
     | succ j =>
       have h' : r.count x ≤ 1:=by
        rw [List.count_cons] at h
        omega
       rw [zsA r h' i j (by simpa using hi) (by simpa using hj) (by simpa using e1) (by simpa using e2)]
theorem ztf {t : List Int} (h : zgp t = true) {a b : Int} (ha : 0 ≤ a ∧ a < t.length) (hb : 0 ≤ b ∧ b < t.length) (ea : tr t a = -1) (eb : tr t b = -1) : a = b:=by
 have h1 : zaE t 0 0 t = some 1:=by simpa [zgp] using h
 have h2:=zfu t t 0 0 1 h1
 have ha' : a.toNat < t.length:=by omega
 have hb' : b.toNat < t.length:=by omega
 have:=zsA t (x:=-1) (by omega) a.toNat b.toNat ha' hb' (by simpa [tr,ha'] using ea) (by simpa [tr,hb'] using eb)
 omega
theorem zDt {t : List Int} {a b : Int} (h : inS t [a,b] = true) : zgp t = true ∧ 0 ≤ zE t a ∧ 0 ≤ zE t b:=by
 simp [inS] at h
 exact ⟨h.1,by omega,by omega⟩
end AC
namespace AC
open Go Go.A Go.A.Lex
@[go_sem] theorem zxZ (k : Int) : call T 143 [vI k] [] = some (vI (zlZ k),[]):=by
  rw [ze (fn:=zfj) rfl]
  by_cases c0 : k = 0
  ·simp -implicitDefEqProofs only [go_sem,zfj,zlZ,c0]
  by_cases c3 : k = 3
  ·simp -implicitDefEqProofs only [go_sem,zfj,zlZ,c0,c3]
  by_cases c1 : k = 1
  ·simp -implicitDefEqProofs only [go_sem,zfj,zlZ,c0,c3,c1]
  by_cases c2 : k = 2 <;> simp -implicitDefEqProofs only [go_sem,zfj,zlZ,c0,c3,c1,c2]
theorem zug (l : List Int) (n : Int) (hl : l.length ≤ 4294967296) : ∀ (d k : Nat) (last : Int) (a0 a2 a4 a8 a9 : V),l.length - k = d → k ≤ l.length →
  exec T zfs ⟨[a0,vI n,a2,vI last,a4,vIs l,vI l.length,vI k,a8,a9],[],0,0⟩ =
   some (if zP n last (l.drop k) = true then (.exit 0,⟨[vU,vU,vU,vU,vU,vU,vU,vU,vU,vU],[],0,0⟩) else (.ret,⟨[vU,vU,vB false,vU,vU,vU,vU,vU,vU,vU],[],0,0⟩)):=by
 intro d
 induction d with
 | zero =>
   intro k last a0 a2 a4 a8 a9 h1 h2
   have hk : k = l.length:=by omega
   subst hk
   rw [xl zfs rfl,zg0]
   simp -implicitDefEqProofs only [go_sem,yg,yf,zP]
 | succ d ih =>
   intro k last a0 a2 a4 a8 a9 h1 h2
   have hk : k < l.length:=by omega
   have hd : l.drop k = l[k] :: l.drop (k + 1):=ya hk
   rw [xl zfs rfl,zg0,hd]
   by_cases c1 : l[k] ≤ last
   ·simp -implicitDefEqProofs only [go_sem,ilt hk,zp hk,ri,c1,zP]
   ·by_cases c2 : n ≤ l[k]
    ·simp -implicitDefEqProofs only [go_sem,ilt hk,zp hk,ri,c1,c2,zP]
    ·simp -implicitDefEqProofs only [go_sem,ilt hk,zp hk,ri,c1,c2,zP,za hk hl]
     exact ih (k + 1) l[k] _ _ _ _ _ (by omega) (by omega)
@[go_sem] theorem zmM (l : List Int) (n : Int) (hl : l.length ≤ 4294967296) : call T 180 [vIs l,vI n] [] = some (vB (rising l n),[]):=by
  rw [ze (fn:=zhN) rfl]
  have h:=fun a0 a2 a4 a8 a9 => zug l n hl l.length 0 (-1) a0 a2 a4 a8 a9 (by omega) (by omega)
  simp only [yh,yc] at h
  cases ha : zP n (-1) l <;> simp -implicitDefEqProofs only [go_sem,ha] at h <;> simp -implicitDefEqProofs only [go_sem,zhN,rising,h,ha]
theorem zpR (l m : List Int) (hn : l.length = m.length) (hl : l.length ≤ 4294967296) (σ : zd) : ∀ (d k : Nat) (a2 a3 a4 a7 a8 : V),l.length - k = d → k ≤ l.length →
  exec T zda ⟨[vIs l,vIs m,a2,a3,a4,vI l.length,vI k,a7,a8],σ,σ.length,σ.length⟩ =
   some (if l.drop k = m.drop k then (.exit 0,⟨[vU,vU,vU,vU,vU,vU,vU,vU,vU],σ,σ.length,σ.length⟩) else (.ret,⟨[vU,vU,vB false,vU,vU,vU,vU,vU,vU],σ,σ.length,σ.length⟩)):=by
 intro d
 induction d with
 | zero =>
   intro k a2 a3 a4 a7 a8 h1 h2
   have hk : k = l.length:=by omega
   subst hk
   have e : m.drop l.length = []:=by simp [hn]
   rw [xl zda rfl,zfd,e]
   simp -implicitDefEqProofs only [go_sem,yg,yf]
 | succ d ih =>
   intro k a2 a3 a4 a7 a8 h1 h2
   have hk : k < l.length:=by omega
   have hk2 : k < m.length:=by omega
   have hd : l.drop k = l[k] :: l.drop (k + 1):=ya hk
   have hd2 : m.drop k = m[k] :: m.drop (k + 1):=ya hk2
   rw [xl zda rfl,zfd,hd,hd2]
   by_cases c1 : l[k] = m[k]
   ·simp -implicitDefEqProofs only [go_sem,ilt hk,zp hk,zp hk2,ri,c1,za hk hl,List.cons.injEq]
    exact ih (k + 1) _ _ _ _ _ (by omega) (by omega)
   ·simp -implicitDefEqProofs only [go_sem,ilt hk,zp hk,zp hk2,ri,c1,List.cons.injEq,false_and]
@[go_sem] theorem zkK (l m : List Int) (σ : zd) (hl : l.length ≤ 4294967296) : call T 184 [vIs l,vIs m] σ = some (vB (decide (l = m)),σ):=by
  rw [ze (fn:=zci) rfl]
  by_cases hn : l.length = m.length
  ·have h:=fun a2 a3 a4 a7 a8 => zpR l m hn hl σ l.length 0 a2 a3 a4 a7 a8 (by omega) (by omega)
   have hz : ((l.length : Int) = (m.length : Int)) = True:=by simp [hn]
   simp only [yh,yc] at h
   by_cases he : l = m
   ·subst he
    simp -implicitDefEqProofs only [go_sem] at h
    simp -implicitDefEqProofs only [go_sem,zci,h]
   ·simp -implicitDefEqProofs only [go_sem,he] at h
    simp -implicitDefEqProofs only [go_sem,zci,h,he,hz]
  ·have he : ¬ l = m:=fun h => hn (by rw [h])
   have hn' : ¬ (l.length : Int) = (m.length : Int):=by omega
   simp -implicitDefEqProofs only [go_sem,zci,hn',he]
theorem zp5 (l m : List (List Int)) (hn : l.length = m.length) (hl : l.length ≤ 4294967296) (hls : ∀ x ∈ l,x.length ≤ 4294967296) (σ : zd) : ∀ (d k : Nat) (a0 a3 a4 a5 a6 a7 a11 a12 : V),l.length - k = d → k ≤ l.length →
  exec T zaU ⟨[a0,vLs m,vFn 184 [],a3,a4,a5,a6,a7,vLs l,vI l.length,vI k,a11,a12],σ,σ.length,σ.length⟩ =
   some (if l.drop k = m.drop k then (.exit 0,⟨[vU,vU,vU,vU,vU,vU,vU,vU,vU,vU,vU,vU,vU],σ,σ.length,σ.length⟩) else (.ret,⟨[vU,vU,vU,vB false,vU,vU,vU,vU,vU,vU,vU,vU,vU],σ,σ.length,σ.length⟩)):=by
 intro d
 induction d with
 | zero =>
   intro k a0 a3 a4 a5 a6 a7 a11 a12 h1 h2
   have hk : k = l.length:=by omega
   subst hk
   have e : m.drop l.length = []:=by simp [hn]
   rw [xl zaU rfl,zcP,e]
   simp -implicitDefEqProofs only [go_sem,yg,yf]
 | succ d ih =>
   intro k a0 a3 a4 a5 a6 a7 a11 a12 h1 h2
   have hk : k < l.length:=by omega
   have hk2 : k < m.length:=by omega
   have hd : l.drop k = l[k] :: l.drop (k + 1):=ya hk
   have hd2 : m.drop k = m[k] :: m.drop (k + 1):=ya hk2
   have hc:=zkK l[k] m[k] σ (hls _ (ye hk))
   rw [xl zaU rfl,zcP,hd,hd2]
   by_cases c1 : l[k] = m[k]
   ·simp -implicitDefEqProofs only [go_sem,c1] at hc
    simp -implicitDefEqProofs only [go_sem,ilt hk,zp hk,zp hk2,rl,c1,hc,za hk hl,List.cons.injEq]
    exact ih (k + 1) _ _ _ _ _ _ _ _ (by omega) (by omega)
   ·simp -implicitDefEqProofs only [go_sem,c1] at hc
    simp -implicitDefEqProofs only [go_sem,ilt hk,zp hk,zp hk2,rl,c1,hc,List.cons.injEq,false_and]
@[go_sem] theorem zkX (l m : List (List Int)) (σ : zd) (hl : l.length ≤ 4294967296) (hls : ∀ x ∈ l,x.length ≤ 4294967296) : call T 183 [vLs l,vLs m,vFn 184 []] σ = some (vB (decide (l = m)),σ):=by
  rw [ze (fn:=zav) rfl]
  by_cases hn : l.length = m.length
  ·have h:=fun a0 a3 a4 a5 a6 a7 a11 a12 => zp5 l m hn hl hls σ l.length 0 a0 a3 a4 a5 a6 a7 a11 a12 (by omega) (by omega)
   have hz : ((l.length : Int) = (m.length : Int)) = True:=by simp [hn]
   simp only [yh,yc] at h
   by_cases he : l = m
   ·subst he
    simp -implicitDefEqProofs only [go_sem] at h
    simp -implicitDefEqProofs only [go_sem,zav,h]
   ·simp -implicitDefEqProofs only [go_sem,he] at h
    simp -implicitDefEqProofs only [go_sem,zav,h,he,hz]
  ·have he : ¬ l = m:=fun h => hn (by rw [h])
   have hn' : ¬ (l.length : Int) = (m.length : Int):=by omega
   simp -implicitDefEqProofs only [go_sem,zav,hn',he]
end AC
namespace AC
open Go Go.A Go.A.Lex
def apR : Nat → List (List Int) → List (List C)
 | _,[] => []
 | q,l :: r => [.ap 0 q (l.map ri)] :: apR (q + 1) r
theorem zh5 : ∀ (out : List (List Int)) (q : Nat),(apR q out).length = out.length
 | [],_ => rfl
 | l :: r,q => by simp [apR,zh5 r (q + 1)]
theorem zul : ∀ (out : List (List Int)) (q k : Nat) (h : k < out.length),(apR q out)[k]? = some [.ap 0 (q + k) (out[k].map ri)]
 | [],_,_,h => by simp at h
 | l :: r,q,0,_ => by simp [apR]
 | l :: r,q,k + 1,h => by
   simp only [apR,List.getElem?_cons_succ,List.getElem_cons_succ]
   rw [zul r (q + 1) k (by simpa using h),yt,yw 1 k]
theorem zAd : ∀ (out : List (List Int)) (q k : Nat) (l : List Int),(apR q out).set k [.ap 0 (q + k) (l.map ri)] = apR q (out.set k l)
 | [],_,_,_ => rfl
 | x :: r,q,0,l => by simp [apR]
 | x :: r,q,k + 1,l => by
   simp only [apR,List.set_cons_succ]
   rw [← zAd r (q + 1) k l,yt,yw 1 k]
theorem zzj : ∀ (out : List (List Int)) (q : Nat),zaq (apR q out) = some (out.map rl)
 | [],_ => rfl
 | x :: r,q => by simp [apR,zaq,zdl,zux,zfE,zzj r (q + 1),rl]
theorem zDi (n : Nat) : (List.range n).map (nest 0 [.f (.sl [])] 0) = apR 0 (yb n []):=by
 apply List.ext_getElem?
 intro k
 by_cases hk : k < n
 ·rw [zul _ _ _ (by simpa using hk)]
  simp [hk,nest]
 ·rw [yn (by simp; omega),yn (by rw [zh5]; simp; omega)]
theorem zAn {i : Int} {out : List (List Int)} {x : Int} {B : Nat} (h : ∀ y ∈ out,y.length ≤ B) : ∀ y ∈ ztG i out x,y.length ≤ B + 1:=by
 intro y hy
 rcases List.mem_or_eq_of_mem_set hy with h1 | h1
 ·have:=h y h1
  omega
 ·subst h1
  simp only [List.length_append,yd,List.length_nil,List.getD_eq_getElem?_getD]
  cases e : out[x.toNat]? with
  | none => simp
  | some z =>
    have:=h z (List.mem_of_getElem? e)
    simp
    omega
theorem zsl (i : Int) : ∀ (l : List Int) (out : List (List Int)) (B : Nat),(∀ y ∈ out,y.length ≤ B) → ∀ y ∈ l.foldl (ztG i) out,y.length ≤ B + l.length
 | [],_,_,h => h
 | x :: r,out,B,h => fun y hy => by
   have:=zsl i r (ztG i out x) (B + 1) (zAn h) y hy
   simp only [yd]
   omega
abbrev pst (out : List (List Int)) : zd:=[.tok 1 (out.map yk),.cells 0 1 (apR 0 out)]
theorem zBn (succ : List (List Int)) (i n : Nat) (l : List Int) (hl : l.length ≤ 4294967296) (hx : ∀ x ∈ l,0 ≤ x ∧ x < n) : ∀ (d k : Nat) (out : List (List Int)) (B : Nat) (a0 a1 a4 a5 a9 a13 : V),l.length - k = d → k ≤ l.length → out.length = n →
  (∀ y ∈ out,y.length ≤ B) → B + d ≤ 4294967296 →
  exec T zfU ⟨[a0,a1,.one (.own 1 0 0 n),vI i,a4,a5,vLs succ,vI succ.length,vI i,a9,vIs l,vI l.length,vI k,a13],pst out,0,0⟩ =
   some (.exit 2,⟨[vU,vU,.one (.own 1 0 0 n),vU,vU,vU,vLs succ,vI succ.length,vI i,vU,vU,vU,vU,vU],pst ((l.drop k).foldl (ztG i) out),0,0⟩):=by
 intro d
 induction d with
 | zero =>
   intro k out B a0 a1 a4 a5 a9 a13 h1 h2 ho hb hB
   have hk : k = l.length:=by omega
   subst hk
   rw [xl zfU rfl,zhB]
   simp -implicitDefEqProofs only [go_sem,yg,yf,List.foldl_nil]
 | succ d ih =>
   intro k out B a0 a1 a4 a5 a9 a13 h1 h2 ho hb hB
   have hk : k < l.length:=by omega
   have hd : l.drop k = l[k] :: l.drop (k + 1):=ya hk
   obtain ⟨x0,x1⟩:=hx _ (ye hk)
   generalize hxe : l[k] = x at *
   obtain ⟨j,rfl⟩ : ∃ j : Nat,x = j:=⟨x.toNat,by omega⟩
   have hj : j < out.length:=by omega
   have hjn : ((j : Int) < (n : Int)) = True:=by simp; omega
   have hg:=zul out 0 j hj
   have hs:=fun m => zAd out 0 j m
   simp only [Nat.zero_add] at hg hs
   have hf : (out.map yk)[j]? = some out[j].length:=by simp [hj]
   have hlim : out[j].length + 1 ≤ LIM:=by
    have:=hb _ (ye hj)
    unfold LIM
    omega
   have hadd : ztG i out j = out.set j (out[j] ++ [(i : Int)]):=by simp [ztG,hj]
   have hkr : (l.map ri)[k]? = some (ri (j : Int)):=by rw [zp hk,hxe]
   rw [xl zfU rfl,zhB,hd,ys]
   simp -implicitDefEqProofs only [go_sem,ilt hk,hkr,ri,x0,hjn,yq,hg,hf,hlim,zh5,yo,yy]
   have e1 : yA ri out[j] ++ [[Fz.lit (Value.int .i64 (i : Int))]] = yA ri (out[j] ++ [(i : Int)]):=by simp [ri]
   rw [e1]
   simp -implicitDefEqProofs only [go_sem,hs,zh5,za hk hl,hg]
   have hB' : ∀ y ∈ out.set j (out[j] ++ [(i : Int)]),y.length ≤ B + 1:=by
    rw [← hadd]
    exact zAn hb
   have:=ih (k + 1) (out.set j (out[j] ++ [(i : Int)])) (B + 1) vU vU vU vU vU vU (by omega) (by omega) (by simpa using ho) hB' (by omega)
   rw [hadd]
   simp -implicitDefEqProofs only [go_sem,pst,yy] at this ⊢
   exact this
theorem zBF (succ : List (List Int)) (hs : succ.length ≤ 4294967296) (hl : ∀ l ∈ succ,l.length ≤ 4294967296) (hx : ∀ l ∈ succ,∀ x ∈ l,0 ≤ x ∧ x < succ.length) : ∀ (d k : Nat) (out : List (List Int)) (B : Nat) (a0 a1 a3 a4 a5 a9 a10 a11 a12 a13 : V),succ.length - k = d → k ≤ succ.length → out.length = succ.length →
  (∀ y ∈ out,y.length ≤ B) → B + ((succ.drop k).map yk).sum ≤ 4294967296 →
  exec T zfS ⟨[a0,a1,.one (.own 1 0 0 succ.length),a3,a4,a5,vLs succ,vI succ.length,vI k,a9,a10,a11,a12,a13],pst out,0,0⟩ =
   some (.exit 0,⟨[vU,vU,.one (.own 1 0 0 succ.length),vU,vU,vU,vU,vU,vU,vU,vU,vU,vU,vU],pst (za9 k (succ.drop k) out),0,0⟩):=by
 intro d
 induction d with
 | zero =>
   intro k out B a0 a1 a3 a4 a5 a9 a10 a11 a12 a13 h1 h2 ho hb hB
   have hk : k = succ.length:=by omega
   subst hk
   rw [xl zfS rfl,zhT]
   simp -implicitDefEqProofs only [go_sem,yg,yf,za9]
 | succ d ih =>
   intro k out B a0 a1 a3 a4 a5 a9 a10 a11 a12 a13 h1 h2 ho hb hB
   have hk : k < succ.length:=by omega
   have hd : succ.drop k = succ[k] :: succ.drop (k + 1):=ya hk
   have hm:=ye hk
   rw [hd,List.map_cons,yx] at hB
   have h0:=fun a0 a1 a4 a5 a9 a13 => zBn succ k succ.length succ[k] (hl _ hm) (hx _ hm) succ[k].length 0 out B a0 a1 a4 a5 a9 a13 (by omega) (by omega) ho hb (by omega)
   have:=ih (k + 1) (succ[k].foldl (ztG k) out) (B + succ[k].length) vU vU vU vU vU vU vU vU vU vU (by omega) (by omega) (by rw [zf7,ho]) (zsl _ _ _ _ hb) (by omega)
   rw [xl zfS rfl,zhT,hd,za9]
   simp -implicitDefEqProofs only [go_sem,pst,yh,yc] at h0 this
   simp -implicitDefEqProofs only [go_sem,ilt hk,zp hk,rl,pst,h0,za hk hs]
   exact this
theorem zwO (succ : List (List Int)) (hs : succ.length ≤ 4294967296) (hl : ∀ l ∈ succ,l.length ≤ 4294967296) (hx : ∀ l ∈ succ,∀ x ∈ l,0 ≤ x ∧ x < succ.length) (ht : (succ.map yk).sum ≤ 4294967296) :
  call T 182 [vLs succ] [] = some (vLs (zM succ),[]):=by
 rw [ze (fn:=zik) rfl]
 have h:=fun a0 a1 a3 a4 a5 a9 a10 a11 a12 a13 => zBF succ hs hl hx succ.length 0 (yb succ.length []) 0 a0 a1 a3 a4 a5 a9 a10 a11 a12 a13 (by omega) (by omega) (by simp) (fun y hy => by rw [(List.mem_replicate.1 hy).2]; simp) (by simpa using ht)
 have hlen : (apR 0 (za9 0 succ (yb succ.length []))).length = succ.length:=by rw [zh5,zgf]; simp
 have hlim : (succ.length : Int) ≤ (LIM : Int):=by unfold LIM; omega
 have htk : (apR 0 (za9 0 succ (yb succ.length []))).take succ.length = apR 0 (za9 0 succ (yb succ.length [])):=yl (by omega)
 simp -implicitDefEqProofs only [go_sem,pst,yh,yc,List.map_replicate] at h
 simp -implicitDefEqProofs only [go_sem,zik,hlim,zDi,h,yp,yq,htk,zzj,zM]
end AC
namespace AC
open Go Go.A Go.A.Lex
theorem zml {f : Nat} {g : List V → zd → Option (V × zd)} (h : T f = some (.ext g)) (args : List V) (σ : zd) : call T f args σ = g args σ:=by
 simp only [call,zfy,h]
theorem zuX (l : List Int) : znv 1 (l.map ri) = true:=by
 induction l with
 | nil => rfl
 | cons x r ih => simp [znv,ri,ih]
@[go_sem] theorem zpY (l : List Int) (hl : l.length ≤ 4294967296) : call T 181 [vIs l] [] = some (vIs l,[]):=by
  rw [zml (g:=zh6 1) rfl]
  simp [zh6,zoa,zuX,LIM,hl]
theorem zmS (l : List Int) (n : Int) (hl : l.length ≤ 4294967296) (o : Ob) (r : zd) : call T 179 [vIs l,.one (.ptr 1 0 0 0)] (o :: .cells 0 1 [[.f (ei n)]] :: r) = some (vB (!rising l n),o :: .cells 0 1 [[.f (ei n)]] :: r):=by
 rw [ze (fn:=zhG) rfl]
 have h:=zmM l n hl
 simp -implicitDefEqProofs only [go_sem] at h
 simp -implicitDefEqProofs only [go_sem,zhG,h]
theorem zne (n : Int) : ∀ (l : List Int) (last : Int),zP n last l = true → ∀ x ∈ l,last < x ∧ x < n
 | [],_,_,x,h => by simp at h
 | y :: r,last,h,x,hx => by
   simp only [zP] at h
   split at h
   ·cases h
   ·rename_i hc
    rcases yv.1 hx with rfl | hx
    ·omega
    ·have:=zne n r y h x hx
     omega
theorem zqb (n : Int) : ∀ (l : List Int) (last : Int),zP n last l = true → -1 ≤ last → last < n → (l.length : Int) ≤ n - last - 1
 | [],last,_,h1,h2 => by simp; omega
 | y :: r,last,h,h1,h2 => by
   simp only [zP] at h
   split at h
   ·cases h
   ·rename_i hc
    have:=zqb n r y h (by omega) (by omega)
    simp only [yd]
    omega
theorem zf5 {succ : List (List Int)} (h : zbk succ = true) : 1 ≤ succ.length ∧ succ.length ≤ 64 ∧ ∀ l ∈ succ,rising l succ.length = true:=by
 simp only [zbk,yr,Bool.or_eq_false_iff,decide_eq_false_iff_not,List.any_eq_false,yr,Bool.not_eq_false] at h
 exact ⟨by omega,by omega,fun l hl => by simpa using h.2.2 l hl⟩
theorem zqS (B : Nat) : ∀ l : List Nat,(∀ x ∈ l,x ≤ B) → l.sum ≤ B * l.length
 | [],_ => by simp
 | x :: r,h => by
   have h1:=h x (by simp)
   have h2:=zqS B r fun y hy => h y (by simp [hy])
   simp only [yx,yd,Nat.mul_add]
   omega
theorem zy1 (succ : List (List Int)) (hs : zjo succ) (hn : succ.length ≤ 64) (o0 o1 : Ob) (hlt0 : o0.lt 3 = true) (hlt1 : o1.lt 3 = true) : ∀ (d k : Nat) (a0 a2 a3 a5 a6 a10 : V),succ.length - k = d → k ≤ succ.length →
  exec T zgz ⟨[a0,.one (.ptr 0 0 0 0),a2,a3,.one (.ap 2 0 ((succ.take k).map rl)),a5,a6,vLs succ,vI succ.length,vI k,a10],[o0,o1,.tok 1 [k]],0,0⟩ =
   some (.exit 0,⟨[vU,.one (.ptr 0 0 0 0),vU,vU,.one (.ap 2 0 (succ.map rl)),vU,vU,vU,vU,vU,vU],[o0,o1,.tok 1 [succ.length]],0,0⟩):=by
 intro d
 induction d with
 | zero =>
   intro k a0 a2 a3 a5 a6 a10 h1 h2
   have hk : k = succ.length:=by omega
   subst hk
   rw [xl zgz rfl,ziR]
   simp -implicitDefEqProofs only [go_sem,yg,List.take_length]
 | succ d ih =>
   intro k a0 a2 a3 a5 a6 a10 h1 h2
   have hk : k < succ.length:=by omega
   have hc:=zpY succ[k] (hs.2 _ (ye hk))
   have hlt : (succ.take k).length = k:=by simp; omega
   have hlim : k + 1 ≤ LIM:=by unfold LIM; omega
   have e : (succ.take k).map rl ++ [[Fz.sl (succ[k].map ri)]] = (succ.take (k + 1)).map rl:=by
    rw [yi hk,yo]
    rfl
   rw [xl zgz rfl,ziR]
   simp -implicitDefEqProofs only [go_sem] at hc
   simp -implicitDefEqProofs only [go_sem,ilt hk,zp hk,rl,hc,hlt,hlim,za hk hs.1]
   have:=ih (k + 1) vU vU vU vU vU vU (by omega) (by omega)
   rw [← e] at this
   simp -implicitDefEqProofs only [go_sem] at this
   exact this
def zjJ (succ : List (List Int)) : V:=if zbk succ = true then .tup [.agg [.f (.sl (succ.map rl)),.f (.sl ((zM succ).map rl))],vI 0] else .tup [.agg [.f (.sl []),.f (.sl [])],vI 5]
theorem zgG {succ : List (List Int)} (h : zbk succ = true) : (succ.map yk).sum ≤ 4294967296:=by
 obtain ⟨h1,h2,h3⟩:=zf5 h
 have:=zqS 64 (succ.map yk) (fun x hx => by
  obtain ⟨l,hl,rfl⟩:=yz.1 hx
  have:=zqb _ _ _ (h3 l hl) (by omega) (by omega)
  omega)
 rw [List.length_map] at this
 have h4 : 64 * succ.length ≤ 64 * 64:=Nat.mul_le_mul_left _ h2
 omega
@[go_sem] theorem zjs (succ : List (List Int)) (hs : zjo succ) : call T 147 [vLs succ] [] = some (zjJ succ,[]):=by
  rw [ze (fn:=zfg) rfl]
  have hcf:=zi8 succ (fun l => !rising l succ.length) 179 [] [.ptr 1 0 0 0] [.cells 0 2 [[.f (.sl []),.f (.sl [])]],.cells 0 1 [[.f (ei succ.length)]]] hs.1 (fun x hx => zmS x _ (hs.2 x hx) _ _)
  simp -implicitDefEqProofs only [go_sem] at hcf
  by_cases c1 : succ.length < 1
  ·have c1' : (succ.length : Int) < 1:=by omega
   simp -implicitDefEqProofs only [go_sem,zfg,zjJ,zbk,c1,c1']
  have c1' : ¬ (succ.length : Int) < 1:=by omega
  by_cases c2 : 64 < succ.length
  ·have c2' : (64 : Int) < (succ.length : Int):=by omega
   simp -implicitDefEqProofs only [go_sem,zfg,zjJ,zbk,c1,c1',c2,c2']
  have c2' : ¬ (64 : Int) < (succ.length : Int):=by omega
  cases c3 : succ.any fun l => !rising l succ.length
  ·have hok : zbk succ = true:=by simp [zbk,c1,c2,c3]
   obtain ⟨q1,q2,q3⟩:=zf5 hok
   have hl:=fun a0 a2 a3 a5 a6 a10 => zy1 succ hs q2 (.cells 0 2 [[.f (.sl []),.f (.sl [])]]) (.cells 0 1 [[.f (ei succ.length)]]) rfl rfl succ.length 0 a0 a2 a3 a5 a6 a10 (by omega) (by omega)
   have hp:=zwO succ hs.1 hs.2 (fun l hl x hx => by have:=zne _ _ _ (q3 l hl) x hx; omega) (zgG hok)
   have hlim : (succ.length : Int) ≤ (LIM : Int):=by unfold LIM; omega
   simp -implicitDefEqProofs only [go_sem,yu,yc] at hl hp
   simp -implicitDefEqProofs only [go_sem,zfg,c1',c2',hcf,c3,hlim,yp,hl,hp,zjJ,hok]
  ·simp -implicitDefEqProofs only [go_sem,zfg,zjJ,zbk,c1,c1',c2,c2',hcf,c3]
end AC
namespace AC
open Go Go.A Go.A.Lex
theorem zki (l : List Int) : zga (l.map ri) = some l:=by
 induction l with
 | nil => rfl
 | cons x r ih => simp [zga,zvt,ri,zfE,ih]
theorem zdb (l : List Int) : zaq (l.map zj) = some (l.map ri):=by
 induction l with
 | nil => rfl
 | cons x r ih => simp [zaq,zdl,zux,zj,zfE,ih,ri]
theorem zuu (l : List Int) (hl : l.length ≤ 4294967296) (σ : zd) (id : Nat) (hσ : σ[id]? = some (.cells 0 1 [[.f (.sl (l.map ri))]])) :
  call T 145 [.one (.fn 177 [] [.ptr id 0 0 0])] σ = some (.one (.own σ.length 0 0 l.length),σ ++ [.cells 0 1 ((zbX l).map zj)]):=by
 rw [zml (g:=zgW 177) rfl]
 simp [zgW,zd.cell,zd.elem,hσ,Ob.elem,zlI,zki,zmw,LIM,hl]
theorem ztB (l : List Int) (n : Nat) (hn : l.length = n) (hl : n ≤ 4294967296) (σ : zd) (id : Nat) (hσ : σ[id]? = some (.cells 0 1 (l.map zj))) :
  call T 118 [.one (.own id 0 0 n)] σ = some (vIs (zm l),σ.set id (.cells 1 1 [])):=by
 rw [zml (g:=zff) rfl]
 subst hn
 simp [zff,hσ,zhE,LIM,hl,zdb,zki,zkg,vsl]
 exact fun _ _ => rfl
@[go_sem] theorem zt6 (l : List Int) : call T 146 [vIs l] [] = some (.one (.fn 177 [] [.ptr 0 0 0 0]),[.cells 0 1 [[.f (.sl (l.map ri))]]]):=by
  rw [ze (fn:=ze7) rfl]
  simp -implicitDefEqProofs only [go_sem,ze7]
theorem znM (l : List Int) : (zbX l).length = l.length:=List.length_mergeSort l
theorem zpq (k n : Int) (o0 o1 : Ob) (r : zd) : call T 144 [vI k,.one (.ptr 2 0 0 0)] (o0 :: o1 :: .cells 0 1 [[.f (ei n)]] :: r) = some (vB (zks n k),o0 :: o1 :: .cells 0 1 [[.f (ei n)]] :: r):=by
 rw [ze (fn:=zhA) rfl]
 by_cases c : k < 1
 ·simp -implicitDefEqProofs only [go_sem,zhA,zks,c]
 ·by_cases d : n ≤ k <;> simp -implicitDefEqProofs only [go_sem,zhA,zks,c,d]
def ziS (n : Nat) (b : PBlock) : Bool:=decide (zlZ b.kind = b.to.length) && !b.to.any (zks n)
def ziE (n : Nat) : Nat → List PBlock → Option (Nat × PBlock)
 | _,[] => none
 | k,b :: r => if ziS n b = true then ziE n (k + 1) r else some (k,b)
def zsY (l : List Int) : List Int:=zm (zbX l)
def zl (f : PFunc) : List (List Int):=f.blocks.map fun b => zsY b.to
theorem zCG (f : PFunc) (hf : okF f) (hn : f.blocks.length ≤ 64) : ∀ (d k : Nat) (a0 a1 a3 a6 a7 a11 a12 : V),f.blocks.length - k = d → k ≤ f.blocks.length →
  exec T zir ⟨[a0,a1,.one (.ptr 1 0 0 0),a3,.one (.ptr 2 0 0 0),.one (.ap 3 0 (((zl f).take k).map rl)),a6,a7,vL (f.blocks.map rb),vI f.blocks.length,vI k,a11,a12],[.cells 0 3 [zcJ f],.cells 0 2 [[.f (.sl []),.f (.sl [])]],.cells 0 1 [[.f (ei f.blocks.length)]],.tok 1 [k]],0,0⟩ =
   some (match ziE f.blocks.length k (f.blocks.drop k) with
    | none => (.exit 0,⟨[vU,vU,.one (.ptr 1 0 0 0),vU,vU,.one (.ap 3 0 ((zl f).map rl)),vU,vU,vU,vU,vU,vU,vU],[.cells 0 3 [zcJ f],.cells 0 2 [[.f (.sl []),.f (.sl [])]],.cells 0 1 [[.f (ei f.blocks.length)]],.tok 1 [f.blocks.length]],0,0⟩)
    | some (j,b) => (.ret,⟨[vU,vU,.one (.ptr 1 0 0 0),vI 5,vU,vU,vU,vU,vU,vU,vU,vU,vU],[.cells 0 3 [zcJ f],.cells 0 2 [[.f (.sl []),.f (.sl [])]],.cells 0 1 [[.f (ei f.blocks.length)]],.tok 1 [j],.cells 0 5 [zq b]],0,0⟩)):=by
 intro d
 induction d with
 | zero =>
   intro k a0 a1 a3 a6 a7 a11 a12 q1 q2
   have hk : k = f.blocks.length:=by omega
   subst hk
   have e : (zl f).take f.blocks.length = zl f:=yl (by simp [zl])
   rw [xl zir rfl,zla,e]
   simp -implicitDefEqProofs only [go_sem,yg,yf,ziE]
 | succ d ih =>
   intro k a0 a1 a3 a6 a7 a11 a12 q1 q2
   have hk : k < f.blocks.length:=by omega
   have hd : f.blocks.drop k = f.blocks[k] :: f.blocks.drop (k + 1):=ya hk
   have hm:=hf.block _ (ye hk)
   rw [xl zir rfl,zla,hd,ziE]
   by_cases c1 : zlZ f.blocks[k].kind = f.blocks[k].to.length
   ·have hc:=zaQ f.blocks[k].to (zks f.blocks.length) 144 [] [.ptr 2 0 0 0] [.cells 0 3 [zcJ f],.cells 0 2 [[.f (.sl []),.f (.sl [])]],.cells 0 1 [[.f (ei f.blocks.length)]],.tok 1 [k],.cells 0 5 [zq f.blocks[k]]] hm.to (fun x _ => zpq x _ _ _ _)
    cases c2 : f.blocks[k].to.any (zks f.blocks.length)
    ·have hlt : ((zl f).take k).length = k:=by simp [zl]; omega
     have hlim : k + 1 ≤ LIM:=by unfold LIM; omega
     have hv:=zt6 f.blocks[k].to
     have hs:=zuu f.blocks[k].to hm.to [.cells 0 3 [zcJ f],.cells 0 2 [[.f (.sl []),.f (.sl [])]],.cells 0 1 [[.f (ei f.blocks.length)]],.tok 1 [k],.cells 0 5 [zq f.blocks[k]],.cells 0 1 [[.f (.sl (f.blocks[k].to.map ri))]]] 5 rfl
     have hcp:=ztB (zbX f.blocks[k].to) f.blocks[k].to.length (znM _) hm.to [.cells 0 3 [zcJ f],.cells 0 2 [[.f (.sl []),.f (.sl [])]],.cells 0 1 [[.f (ei f.blocks.length)]],.tok 1 [k],.cells 0 5 [zq f.blocks[k]],.cells 0 1 [[.f (.sl (f.blocks[k].to.map ri))]],.cells 0 1 ((zbX f.blocks[k].to).map zj)] 6 rfl
     have e : ((zl f).take k).map rl ++ [[Fz.sl ((zm (zbX f.blocks[k].to)).map ri)]] = ((zl f).take (k + 1)).map rl:=by
      rw [yi (by simpa [zl] using hk),yo]
      simp [zl,rl,zsY]
     have:=ih (k + 1) vU vU vU vU vU vU vU (by omega) (by omega)
     rw [← e] at this
     simp -implicitDefEqProofs only [go_sem] at hc hv hs hcp this
     simp -implicitDefEqProofs only [go_sem,ilt hk,zp hk,rb,c1,hc,c2,ziS,hv,hs,hcp,hlt,hlim,za hk hf.blocks] at this ⊢
     exact this
    ·simp -implicitDefEqProofs only [go_sem] at hc
     simp -implicitDefEqProofs only [go_sem,ilt hk,zp hk,rb,c1,hc,c2,ziS]
   ·have c1' : ¬ zlZ f.blocks[k].kind = (f.blocks[k].to.length : Int):=c1
    simp -implicitDefEqProofs only [go_sem,ilt hk,zp hk,rb,c1,ziS]
theorem zny (n : Nat) : ∀ (bs : List PBlock) (k : Nat),(ziE n k bs).isNone = bs.all (ziS n)
 | [],_ => rfl
 | b :: r,k => by
   simp only [ziE,List.all_cons]
   cases h : ziS n b
   ·simp
   ·simpa using zny n r (k + 1)
theorem zjA : ∀ l : List Int,(zm l).length ≤ l.length
 | [] => by simp [zm]
 | [x] => by simp [zm]
 | x :: y :: r => by
   have:=zjA (y :: r)
   simp only [zm]
   split
   ·simp only [yd] at this ⊢; omega
   ·simp only [yd] at this ⊢; omega
theorem ztA (l : List Int) : (zsY l).length ≤ l.length:=by
 have:=zjA (zbX l)
 rwa [znM] at this
theorem zh4 {f : PFunc} (hf : okF f) : zjo (zl f):=by
 refine ⟨by simpa [zl] using hf.blocks,fun l hl => ?_⟩
 obtain ⟨b,hb,rfl⟩:=yz.1 hl
 have:=ztA b.to
 have:=(hf.block b hb).to
 omega
def zat (f : PFunc) : Bool:=!decide (64 < f.blocks.length) && (f.blocks.all (ziS f.blocks.length) && zbk (zl f))
def zgo (f : PFunc) : V:=if zat f = true then .tup [.agg [.f (.sl ((zl f).map rl)),.f (.sl ((zM (zl f)).map rl))],vI 0] else .tup [.agg [.f (.sl []),.f (.sl [])],vI 5]
@[go_sem] theorem zlG (f : PFunc) (hf : okF f) : call T 98 [zgS f] [] = some (zgo f,[]):=by
  rw [ze (fn:=zgF) rfl]
  by_cases c1 : 64 < f.blocks.length
  ·have c1' : (64 : Int) < (f.blocks.length : Int):=by omega
   simp -implicitDefEqProofs only [go_sem,zgF,c1,c1',zgo,zat]
  have c1' : ¬ (64 : Int) < (f.blocks.length : Int):=by omega
  have hl:=fun a0 a1 a3 a6 a7 a11 a12 => zCG f hf (by omega) f.blocks.length 0 a0 a1 a3 a6 a7 a11 a12 (by omega) (by omega)
  have ha:=zny f.blocks.length f.blocks 0
  simp only [yh,yc,yu] at hl
  cases e : ziE f.blocks.length 0 f.blocks with
  | some x =>
    rw [e] at ha
    simp only [Option.isNone_some] at ha
    obtain ⟨j,b⟩:=x
    simp -implicitDefEqProofs only [go_sem,e] at hl
    simp -implicitDefEqProofs only [go_sem,zgF,c1,c1',hl,zgo,zat,← ha]
  | none =>
    rw [e] at ha
    simp only [Option.isNone_none] at ha
    have hm:=zjs (zl f) (zh4 hf)
    cases e2 : zbk (zl f)
    ·simp -implicitDefEqProofs only [go_sem,e,zjJ,e2] at hl hm
     simp -implicitDefEqProofs only [go_sem,zgF,c1,c1',hl,hm,zgo,zat,← ha,e2]
    ·simp -implicitDefEqProofs only [go_sem,e,zjJ,e2] at hl hm
     simp -implicitDefEqProofs only [go_sem,zgF,c1,c1',hl,hm,zgo,zat,← ha,e2]
end AC
