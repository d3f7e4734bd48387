/- A part of the proof of SchedBack. Conditions: none. -/
import Derived.Test.YtmkncmffaaninaaGreatBAS
set_option linter.unusedVariables false
set_option linter.unusedSimpArgs false
set_option linter.unusedSectionVars false
open List renaming drop_eq_getElem_cons → ya,getElem_mem → yd,drop_length → ye,length_cons → yf,drop_zero → yg,take_succ_eq_append_getElem → yh,count_cons_self → yi,replicate → yj,length → yk,take_of_length_le → yl,count_cons_of_ne → ym,getElem?_eq_none → yn,map_append → yo,take_zero → yt,sum_cons → yv,map_set → yw,mem_map → yx,map → yy
open Int renaming natCast_zero → yb,lt_irrefl → yc,natCast_nonneg → yp,toNat_natCast → yq
open Bool renaming not_eq_true' → yr
open Nat renaming add_assoc → ys,add_comm → yu
namespace AC
theorem zje (t : List Int) : ∀ (r : Nat) (n a m : Int),0 ≤ n → zT t r n a = some m → m = -1 ∨ n ≤ m
 | 0,_,_,_,_,h => by simp [zT] at h
 | r + 1,n,a,m,hn,h => by
   simp only [zT] at h
   split at h
   ·simp at h; omega
   split at h
   ·simp at h; omega
   split at h
   ·simp at h; omega
   ·have:=zje t r (n + 1) _ m (by omega) h
    omega
theorem zjT (t : List Int) : ∀ (r : Nat) (n a m : Int),0 ≤ n → 0 ≤ m → zT t r (n + 1) a = some m → zT t r n a = some (m - 1)
 | 0,_,_,_,_,_,h => by simp [zT] at h
 | r + 1,n,a,m,hn,hm,h => by
   simp only [zT] at h ⊢
   split at h
   ·simp at h; omega
   split at h
   ·simp at h; omega
   split at h
   ·rename_i h1 h2 h3
    simp only [h1,h2,h3,if_true,if_false,Option.some.injEq] at h ⊢
    omega
   ·rename_i h1 h2 h3
    simp only [h1,h2,h3,if_false]
    exact zjT t r (n + 1) _ m (by omega) hm h
theorem zjl (t : List Int) : ∀ (r : Nat) (n a m : Int),zT t r n a = some m → zT t (r + 1) n a = some m
 | 0,_,_,_,h => by simp [zT] at h
 | r + 1,n,a,m,h => by
   rw [zT] at h ⊢
   split at h
   ·rename_i h1; simp only [h1,if_true]; exact h
   split at h
   ·rename_i h1 h2; simp only [h1,h2,if_true,if_false]; exact h
   split at h
   ·rename_i h1 h2 h3; simp only [h1,h2,h3,if_true,if_false]; exact h
   ·rename_i h1 h2 h3
    simp only [h1,h2,h3,if_false]
    exact zjl t r (n + 1) _ m h
theorem zmq {t : List Int} {a : Int} (h : 0 ≤ zA t a) : zT t t.length 0 a = some (zA t a):=by
 unfold zA at h ⊢
 cases e : zT t t.length 0 a with
 | none => rw [e] at h; simp at h
 | some m => rfl
theorem zeI {t : List Int} {a : Int} (h : 0 ≤ zA t a) : 0 ≤ a ∧ a < t.length:=by
 have:=zmq h
 cases ht : t.length with
 | zero => rw [ht] at this; simp [zT] at this
 | succ r =>
   rw [ht,zT] at this
   split at this
   ·simp at this; omega
   split at this
   ·simp at this; omega
   ·rename_i h1 h2
    rw [ht] at h2
    omega
theorem zhL {t : List Int} {a : Int} (h0 : 0 ≤ a) (h1 : a < t.length) (h : tr t a = -1) : zA t a = 0:=by
 unfold zA
 cases ht : t.length with
 | zero => omega
 | succ r =>
   rw [zT,if_neg (by omega),if_neg (by omega),if_pos h]
   rfl
theorem zc0 {t : List Int} {a : Int} (h : 0 ≤ zA t a) (hn : tr t a ≠ -1) : 1 ≤ zA t a ∧ zA t (tr t a) = zA t a - 1:=by
 have hs:=zmq h
 obtain ⟨h0,h1⟩:=zeI h
 cases ht : t.length with
 | zero => omega
 | succ r =>
   rw [ht,zT,if_neg (by omega),if_neg (by omega),if_neg hn] at hs
   have h2:=zje t r (0 + 1) _ _ (by omega) hs
   have h3:=zjl t r _ _ _ (zjT t r 0 _ _ (by omega) h hs)
   refine ⟨by omega,?_⟩
   rw [← ht] at h3
   rw [zA,h3]
   rfl
theorem zez {t : List Int} {a : Int} (h : zA t a = 0) : tr t a = -1:=by
 by_cases c : tr t a = -1
 ·exact c
 ·have:=zc0 (by omega) c
  omega
theorem zdc (t : List Int) : ∀ (l : List Int) (k n m : Nat),zbf t k n l = some m → m = n + l.count (-1)
 | [],_,_,_,h => by simp [zbf] at h; simp [h]
 | x :: r,k,n,m,h => by
   simp only [zbf] at h
   split at h
   ·rename_i hx
    subst hx
    rw [zdc t r _ _ _ h,ym (by decide)]
   split at h
   ·cases h
   ·split at h
    ·rename_i hx
     subst hx
     rw [zdc t r _ _ _ h,yi]
     omega
    ·rename_i hx
     rw [zdc t r _ _ _ h,ym (by simpa using hx)]
theorem zqc {x : Int} : ∀ (l : List Int),l.count x ≤ 1 → ∀ i j (hi : i < l.length) (hj : j < l.length),l[i] = x → l[j] = x → i = j
 | [],_,i,_,hi,_,_,_ => by simp at hi
 | y :: r,h,i,j,hi,hj,e1,e2 => by
   have pos : ∀ k (hk : k < r.length),r[k] = x → 1 ≤ r.count x:=fun k hk e => by
    have : x ∈ r:=by rw [← e]; exact yd hk
    exact List.count_pos_iff.2 this
   cases i with
   | zero =>
     cases j with
     | zero => rfl
     | succ j =>
       simp at e1 e2
       subst e1
       rw [yi] at h
       have:=pos j (by simpa using hj) e2
       omega
   | succ i =>
     cases j with
     | zero =>
       simp at e1 e2
       subst e2
       rw [yi] at h
       have:=pos i (by simpa using hi) e1
       omega
     | succ j =>
       have h' : r.count x ≤ 1:=by
        rw [List.count_cons] at h
        omega
       rw [zqc r h' i j (by simpa using hi) (by simpa using hj) (by simpa using e1) (by simpa using e2)]
theorem zqT {t : List Int} (h : zfD t = true) {a b : Int} (ha : 0 ≤ a ∧ a < t.length) (hb : 0 ≤ b ∧ b < t.length) (ea : tr t a = -1) (eb : tr t b = -1) : a = b:=by
 have h1 : zbf t 0 0 t = some 1:=by simpa [zfD] using h
 have h2:=zdc t t 0 0 1 h1
 have ha' : a.toNat < t.length:=by omega
 have hb' : b.toNat < t.length:=by omega
 have:=zqc t (x:=-1) (by omega) a.toNat b.toNat ha' hb' (by simpa [tr,ha'] using ea) (by simpa [tr,hb'] using eb)
 omega
theorem zzk {t : List Int} {a b : Int} (h : inS t [a,b] = true) : zfD t = true ∧ 0 ≤ zA t a ∧ 0 ≤ zA t b:=by
 simp [inS] at h
 exact ⟨h.1,by omega,by omega⟩
end AC
namespace AC
open Go Go.A Go.A.Lex
@[go_sem] theorem zut (k : Int) : call T 143 [vI k] [] = some (vI (zqX k),[]):=by
  rw [ze (fn:=zda) rfl]
  by_cases c0 : k = 0
  ·simp -implicitDefEqProofs only [go_sem,zda,zqX,c0]
  by_cases c3 : k = 3
  ·simp -implicitDefEqProofs only [go_sem,zda,zqX,c0,c3]
  by_cases c1 : k = 1
  ·simp -implicitDefEqProofs only [go_sem,zda,zqX,c0,c3,c1]
  by_cases c2 : k = 2 <;> simp -implicitDefEqProofs only [go_sem,zda,zqX,c0,c3,c1,c2]
theorem zrE (l : List Int) (n : Int) (hl : l.length ≤ 4294967296) : ∀ (d k : Nat) (last : Int) (a0 a2 a4 a8 a9 : V),l.length - k = d → k ≤ l.length →
  exec T zdi ⟨[a0,vI n,a2,vI last,a4,vIs l,vI l.length,vI k,a8,a9],[],0,0⟩ =
   some (if zav n last (l.drop k) = true then (.exit 0,⟨[vU,vU,vU,vU,vU,vU,vU,vU,vU,vU],[],0,0⟩) else (.ret,⟨[vU,vU,vB false,vU,vU,vU,vU,vU,vU,vU],[],0,0⟩)):=by
 intro d
 induction d with
 | zero =>
   intro k last a0 a2 a4 a8 a9 h1 h2
   have hk : k = l.length:=by omega
   subst hk
   rw [xl zdi rfl,zeH]
   simp -implicitDefEqProofs only [go_sem,yc,ye,zav]
 | succ d ih =>
   intro k last a0 a2 a4 a8 a9 h1 h2
   have hk : k < l.length:=by omega
   have hd : l.drop k = l[k] :: l.drop (k + 1):=ya hk
   rw [xl zdi rfl,zeH,hd]
   by_cases c1 : l[k] ≤ last
   ·simp -implicitDefEqProofs only [go_sem,ilt hk,zH hk,ri,c1,zav]
   ·by_cases c2 : n ≤ l[k]
    ·simp -implicitDefEqProofs only [go_sem,ilt hk,zH hk,ri,c1,c2,zav]
    ·simp -implicitDefEqProofs only [go_sem,ilt hk,zH hk,ri,c1,c2,zav,zd hk hl]
     exact ih (k + 1) l[k] _ _ _ _ _ (by omega) (by omega)
@[go_sem] theorem zj9 (l : List Int) (n : Int) (hl : l.length ≤ 4294967296) : call T 180 [vIs l,vI n] [] = some (vB (rising l n),[]):=by
  rw [ze (fn:=zfd) rfl]
  have h:=fun a0 a2 a4 a8 a9 => zrE l n hl l.length 0 (-1) a0 a2 a4 a8 a9 (by omega) (by omega)
  simp only [yg,yb] at h
  cases ha : zav n (-1) l <;> simp -implicitDefEqProofs only [go_sem,ha] at h <;> simp -implicitDefEqProofs only [go_sem,zfd,rising,h,ha]
theorem zm1 (l m : List Int) (hn : l.length = m.length) (hl : l.length ≤ 4294967296) (σ : zb) : ∀ (d k : Nat) (a2 a3 a4 a7 a8 : V),l.length - k = d → k ≤ l.length →
  exec T zbS ⟨[vIs l,vIs m,a2,a3,a4,vI l.length,vI k,a7,a8],σ,σ.length,σ.length⟩ =
   some (if l.drop k = m.drop k then (.exit 0,⟨[vU,vU,vU,vU,vU,vU,vU,vU,vU],σ,σ.length,σ.length⟩) else (.ret,⟨[vU,vU,vB false,vU,vU,vU,vU,vU,vU],σ,σ.length,σ.length⟩)):=by
 intro d
 induction d with
 | zero =>
   intro k a2 a3 a4 a7 a8 h1 h2
   have hk : k = l.length:=by omega
   subst hk
   have e : m.drop l.length = []:=by simp [hn]
   rw [xl zbS rfl,zcZ,e]
   simp -implicitDefEqProofs only [go_sem,yc,ye]
 | succ d ih =>
   intro k a2 a3 a4 a7 a8 h1 h2
   have hk : k < l.length:=by omega
   have hk2 : k < m.length:=by omega
   have hd : l.drop k = l[k] :: l.drop (k + 1):=ya hk
   have hd2 : m.drop k = m[k] :: m.drop (k + 1):=ya hk2
   rw [xl zbS rfl,zcZ,hd,hd2]
   by_cases c1 : l[k] = m[k]
   ·simp -implicitDefEqProofs only [go_sem,ilt hk,zH hk,zH hk2,ri,c1,zd hk hl,List.cons.injEq]
    exact ih (k + 1) _ _ _ _ _ (by omega) (by omega)
   ·simp -implicitDefEqProofs only [go_sem,ilt hk,zH hk,zH hk2,ri,c1,List.cons.injEq,false_and]
@[go_sem] theorem zig (l m : List Int) (σ : zb) (hl : l.length ≤ 4294967296) : call T 184 [vIs l,vIs m] σ = some (vB (decide (l = m)),σ):=by
  rw [ze (fn:=zba) rfl]
  by_cases hn : l.length = m.length
  ·have h:=fun a2 a3 a4 a7 a8 => zm1 l m hn hl σ l.length 0 a2 a3 a4 a7 a8 (by omega) (by omega)
   have hz : ((l.length : Int) = (m.length : Int)) = True:=by simp [hn]
   simp only [yg,yb] at h
   by_cases he : l = m
   ·subst he
    simp -implicitDefEqProofs only [go_sem] at h
    simp -implicitDefEqProofs only [go_sem,zba,h]
   ·simp -implicitDefEqProofs only [go_sem,he] at h
    simp -implicitDefEqProofs only [go_sem,zba,h,he,hz]
  ·have he : ¬ l = m:=fun h => hn (by rw [h])
   have hn' : ¬ (l.length : Int) = (m.length : Int):=by omega
   simp -implicitDefEqProofs only [go_sem,zba,hn',he]
theorem zm7 (l m : List (List Int)) (hn : l.length = m.length) (hl : l.length ≤ 4294967296) (hls : ∀ x ∈ l,x.length ≤ 4294967296) (σ : zb) : ∀ (d k : Nat) (a0 a3 a4 a5 a6 a7 a11 a12 : V),l.length - k = d → k ≤ l.length →
  exec T zat ⟨[a0,vLs m,vFn 184 [],a3,a4,a5,a6,a7,vLs l,vI l.length,vI k,a11,a12],σ,σ.length,σ.length⟩ =
   some (if l.drop k = m.drop k then (.exit 0,⟨[vU,vU,vU,vU,vU,vU,vU,vU,vU,vU,vU,vU,vU],σ,σ.length,σ.length⟩) else (.ret,⟨[vU,vU,vU,vB false,vU,vU,vU,vU,vU,vU,vU,vU,vU],σ,σ.length,σ.length⟩)):=by
 intro d
 induction d with
 | zero =>
   intro k a0 a3 a4 a5 a6 a7 a11 a12 h1 h2
   have hk : k = l.length:=by omega
   subst hk
   have e : m.drop l.length = []:=by simp [hn]
   rw [xl zat rfl,zby,e]
   simp -implicitDefEqProofs only [go_sem,yc,ye]
 | succ d ih =>
   intro k a0 a3 a4 a5 a6 a7 a11 a12 h1 h2
   have hk : k < l.length:=by omega
   have hk2 : k < m.length:=by omega
   have hd : l.drop k = l[k] :: l.drop (k + 1):=ya hk
   have hd2 : m.drop k = m[k] :: m.drop (k + 1):=ya hk2
   have hc:=zig l[k] m[k] σ (hls _ (yd hk))
   rw [xl zat rfl,zby,hd,hd2]
   by_cases c1 : l[k] = m[k]
   ·simp -implicitDefEqProofs only [go_sem,c1] at hc
    simp -implicitDefEqProofs only [go_sem,ilt hk,zH hk,zH hk2,rl,c1,hc,zd hk hl,List.cons.injEq]
    exact ih (k + 1) _ _ _ _ _ _ _ _ (by omega) (by omega)
   ·simp -implicitDefEqProofs only [go_sem,c1] at hc
    simp -implicitDefEqProofs only [go_sem,ilt hk,zH hk,zH hk2,rl,c1,hc,List.cons.injEq,false_and]
@[go_sem] theorem ziP (l m : List (List Int)) (σ : zb) (hl : l.length ≤ 4294967296) (hls : ∀ x ∈ l,x.length ≤ 4294967296) : call T 183 [vLs l,vLs m,vFn 184 []] σ = some (vB (decide (l = m)),σ):=by
  rw [ze (fn:=z7) rfl]
  by_cases hn : l.length = m.length
  ·have h:=fun a0 a3 a4 a5 a6 a7 a11 a12 => zm7 l m hn hl hls σ l.length 0 a0 a3 a4 a5 a6 a7 a11 a12 (by omega) (by omega)
   have hz : ((l.length : Int) = (m.length : Int)) = True:=by simp [hn]
   simp only [yg,yb] at h
   by_cases he : l = m
   ·subst he
    simp -implicitDefEqProofs only [go_sem] at h
    simp -implicitDefEqProofs only [go_sem,z7,h]
   ·simp -implicitDefEqProofs only [go_sem,he] at h
    simp -implicitDefEqProofs only [go_sem,z7,h,he,hz]
  ·have he : ¬ l = m:=fun h => hn (by rw [h])
   have hn' : ¬ (l.length : Int) = (m.length : Int):=by omega
   simp -implicitDefEqProofs only [go_sem,z7,hn',he]
end AC
namespace AC
open Go Go.A Go.A.Lex
def apR : Nat → List (List Int) → List (List C)
 | _,[] => []
 | q,l :: r => [.ap 0 q (l.map ri)] :: apR (q + 1) r
theorem zfs : ∀ (out : List (List Int)) (q : Nat),(apR q out).length = out.length
 | [],_ => rfl
 | l :: r,q => by simp [apR,zfs r (q + 1)]
theorem zrj : ∀ (out : List (List Int)) (q k : Nat) (h : k < out.length),(apR q out)[k]? = some [.ap 0 (q + k) (out[k].map ri)]
 | [],_,_,h => by simp at h
 | l :: r,q,0,_ => by simp [apR]
 | l :: r,q,k + 1,h => by
   simp only [apR,List.getElem?_cons_succ,List.getElem_cons_succ]
   rw [zrj r (q + 1) k (by simpa using h),ys,yu 1 k]
theorem zwd : ∀ (out : List (List Int)) (q k : Nat) (l : List Int),(apR q out).set k [.ap 0 (q + k) (l.map ri)] = apR q (out.set k l)
 | [],_,_,_ => rfl
 | x :: r,q,0,l => by simp [apR]
 | x :: r,q,k + 1,l => by
   simp only [apR,List.set_cons_succ]
   rw [← zwd r (q + 1) k l,ys,yu 1 k]
theorem zu9 : ∀ (out : List (List Int)) (q : Nat),zX (apR q out) = some (out.map rl)
 | [],_ => rfl
 | x :: r,q => by simp [apR,zX,zbt,zpI,zde,zu9 r (q + 1),rl]
theorem zyZ (n : Nat) : (List.range n).map (nest 0 [.f (.sl [])] 0) = apR 0 (yj n []):=by
 apply List.ext_getElem?
 intro k
 by_cases hk : k < n
 ·rw [zrj _ _ _ (by simpa using hk)]
  simp [hk,nest]
 ·rw [yn (by simp; omega),yn (by rw [zfs]; simp; omega)]
theorem zvs {i : Int} {out : List (List Int)} {x : Int} {B : Nat} (h : ∀ y ∈ out,y.length ≤ B) : ∀ y ∈ zq4 i out x,y.length ≤ B + 1:=by
 intro y hy
 rcases List.mem_or_eq_of_mem_set hy with h1 | h1
 ·have:=h y h1
  omega
 ·subst h1
  simp only [List.length_append,yf,List.length_nil,List.getD_eq_getElem?_getD]
  cases e : out[x.toNat]? with
  | none => simp
  | some z =>
    have:=h z (List.mem_of_getElem? e)
    simp
    omega
theorem zps (i : Int) : ∀ (l : List Int) (out : List (List Int)) (B : Nat),(∀ y ∈ out,y.length ≤ B) → ∀ y ∈ l.foldl (zq4 i) out,y.length ≤ B + l.length
 | [],_,_,h => h
 | x :: r,out,B,h => fun y hy => by
   have:=zps i r (zq4 i out x) (B + 1) (zvs h) y hy
   simp only [yf]
   omega
abbrev pst (out : List (List Int)) : zb:=[.tok 1 (out.map yk),.cells 0 1 (apR 0 out)]
theorem zw7 (succ : List (List Int)) (i n : Nat) (l : List Int) (hl : l.length ≤ 4294967296) (hx : ∀ x ∈ l,0 ≤ x ∧ x < n) : ∀ (d k : Nat) (out : List (List Int)) (B : Nat) (a0 a1 a4 a5 a9 a13 : V),l.length - k = d → k ≤ l.length → out.length = n →
  (∀ y ∈ out,y.length ≤ B) → B + d ≤ 4294967296 →
  exec T zdA ⟨[a0,a1,.one (.own 1 0 0 n),vI i,a4,a5,vLs succ,vI succ.length,vI i,a9,vIs l,vI l.length,vI k,a13],pst out,0,0⟩ =
   some (.exit 2,⟨[vU,vU,.one (.own 1 0 0 n),vU,vU,vU,vLs succ,vI succ.length,vI i,vU,vU,vU,vU,vU],pst ((l.drop k).foldl (zq4 i) out),0,0⟩):=by
 intro d
 induction d with
 | zero =>
   intro k out B a0 a1 a4 a5 a9 a13 h1 h2 ho hb hB
   have hk : k = l.length:=by omega
   subst hk
   rw [xl zdA rfl,zfh]
   simp -implicitDefEqProofs only [go_sem,yc,ye,List.foldl_nil]
 | succ d ih =>
   intro k out B a0 a1 a4 a5 a9 a13 h1 h2 ho hb hB
   have hk : k < l.length:=by omega
   have hd : l.drop k = l[k] :: l.drop (k + 1):=ya hk
   obtain ⟨x0,x1⟩:=hx _ (yd hk)
   generalize hxe : l[k] = x at *
   obtain ⟨j,rfl⟩ : ∃ j : Nat,x = j:=⟨x.toNat,by omega⟩
   have hj : j < out.length:=by omega
   have hjn : ((j : Int) < (n : Int)) = True:=by simp; omega
   have hg:=zrj out 0 j hj
   have hs:=fun m => zwd out 0 j m
   simp only [Nat.zero_add] at hg hs
   have hf : (out.map yk)[j]? = some out[j].length:=by simp [hj]
   have hlim : out[j].length + 1 ≤ LIM:=by
    have:=hb _ (yd hj)
    unfold LIM
    omega
   have hadd : zq4 i out j = out.set j (out[j] ++ [(i : Int)]):=by simp [zq4,hj]
   have hkr : (l.map ri)[k]? = some (ri (j : Int)):=by rw [zH hk,hxe]
   rw [xl zdA rfl,zfh,hd,List.foldl_cons]
   simp -implicitDefEqProofs only [go_sem,ilt hk,hkr,ri,x0,hjn,yq,hg,hf,hlim,zfs,yo,yw]
   have e1 : yy ri out[j] ++ [[Fz.lit (Value.int .i64 (i : Int))]] = yy ri (out[j] ++ [(i : Int)]):=by simp [ri]
   rw [e1]
   simp -implicitDefEqProofs only [go_sem,hs,zfs,zd hk hl,hg]
   have hB' : ∀ y ∈ out.set j (out[j] ++ [(i : Int)]),y.length ≤ B + 1:=by
    rw [← hadd]
    exact zvs hb
   have:=ih (k + 1) (out.set j (out[j] ++ [(i : Int)])) (B + 1) vU vU vU vU vU vU (by omega) (by omega) (by simpa using ho) hB' (by omega)
   rw [hadd]
   simp -implicitDefEqProofs only [go_sem,pst,yw] at this ⊢
   exact this
theorem zxh (succ : List (List Int)) (hs : succ.length ≤ 4294967296) (hl : ∀ l ∈ succ,l.length ≤ 4294967296) (hx : ∀ l ∈ succ,∀ x ∈ l,0 ≤ x ∧ x < succ.length) : ∀ (d k : Nat) (out : List (List Int)) (B : Nat) (a0 a1 a3 a4 a5 a9 a10 a11 a12 a13 : V),succ.length - k = d → k ≤ succ.length → out.length = succ.length →
  (∀ y ∈ out,y.length ≤ B) → B + ((succ.drop k).map yk).sum ≤ 4294967296 →
  exec T zdH ⟨[a0,a1,.one (.own 1 0 0 succ.length),a3,a4,a5,vLs succ,vI succ.length,vI k,a9,a10,a11,a12,a13],pst out,0,0⟩ =
   some (.exit 0,⟨[vU,vU,.one (.own 1 0 0 succ.length),vU,vU,vU,vU,vU,vU,vU,vU,vU,vU,vU],pst (zbb k (succ.drop k) out),0,0⟩):=by
 intro d
 induction d with
 | zero =>
   intro k out B a0 a1 a3 a4 a5 a9 a10 a11 a12 a13 h1 h2 ho hb hB
   have hk : k = succ.length:=by omega
   subst hk
   rw [xl zdH rfl,zfn]
   simp -implicitDefEqProofs only [go_sem,yc,ye,zbb]
 | succ d ih =>
   intro k out B a0 a1 a3 a4 a5 a9 a10 a11 a12 a13 h1 h2 ho hb hB
   have hk : k < succ.length:=by omega
   have hd : succ.drop k = succ[k] :: succ.drop (k + 1):=ya hk
   have hm:=yd hk
   rw [hd,List.map_cons,yv] at hB
   have h0:=fun a0 a1 a4 a5 a9 a13 => zw7 succ k succ.length succ[k] (hl _ hm) (hx _ hm) succ[k].length 0 out B a0 a1 a4 a5 a9 a13 (by omega) (by omega) ho hb (by omega)
   have:=ih (k + 1) (succ[k].foldl (zq4 k) out) (B + succ[k].length) vU vU vU vU vU vU vU vU vU vU (by omega) (by omega) (by rw [ze7,ho]) (zps _ _ _ _ hb) (by omega)
   rw [xl zdH rfl,zfn,hd,zbb]
   simp -implicitDefEqProofs only [go_sem,pst,yg,yb] at h0 this
   simp -implicitDefEqProofs only [go_sem,ilt hk,zH hk,rl,pst,h0,zd hk hs]
   exact this
theorem ztq (succ : List (List Int)) (hs : succ.length ≤ 4294967296) (hl : ∀ l ∈ succ,l.length ≤ 4294967296) (hx : ∀ l ∈ succ,∀ x ∈ l,0 ≤ x ∧ x < succ.length) (ht : (succ.map yk).sum ≤ 4294967296) :
  call T 182 [vLs succ] [] = some (vLs (zam succ),[]):=by
 rw [ze (fn:=zfX) rfl]
 have h:=fun a0 a1 a3 a4 a5 a9 a10 a11 a12 a13 => zxh succ hs hl hx succ.length 0 (yj succ.length []) 0 a0 a1 a3 a4 a5 a9 a10 a11 a12 a13 (by omega) (by omega) (by simp) (fun y hy => by rw [(List.mem_replicate.1 hy).2]; simp) (by simpa using ht)
 have hlen : (apR 0 (zbb 0 succ (yj succ.length []))).length = succ.length:=by rw [zfs,zdW]; simp
 have hlim : (succ.length : Int) ≤ (LIM : Int):=by unfold LIM; omega
 have htk : (apR 0 (zbb 0 succ (yj succ.length []))).take succ.length = apR 0 (zbb 0 succ (yj succ.length [])):=yl (by omega)
 simp -implicitDefEqProofs only [go_sem,pst,yg,yb,List.map_replicate] at h
 simp -implicitDefEqProofs only [go_sem,zfX,hlim,zyZ,h,yp,yq,htk,zu9,zam]
end AC
namespace AC
open Go Go.A Go.A.Lex
theorem zhJ {f : Nat} {g : List V → zb → Option (V × zb)} (h : T f = some (.ext g)) (args : List V) (σ : zb) : call T f args σ = g args σ:=by
 simp only [call,zdq,h]
theorem zru (l : List Int) : zjY 1 (l.map ri) = true:=by
 induction l with
 | nil => rfl
 | cons x r ih => simp [zjY,ri,ih]
@[go_sem] theorem zna (l : List Int) (hl : l.length ≤ 4294967296) : call T 181 [vIs l] [] = some (vIs l,[]):=by
  rw [zhJ (g:=zfq 1) rfl]
  simp [zfq,zlt,zru,LIM,hl]
theorem zkd (l : List Int) (n : Int) (hl : l.length ≤ 4294967296) (o : Ob) (r : zb) : call T 179 [vIs l,.one (.ptr 1 0 0 0)] (o :: .cells 0 1 [[.f (ei n)]] :: r) = some (vB (!rising l n),o :: .cells 0 1 [[.f (ei n)]] :: r):=by
 rw [ze (fn:=zfe) rfl]
 have h:=zj9 l n hl
 simp -implicitDefEqProofs only [go_sem] at h
 simp -implicitDefEqProofs only [go_sem,zfe,h]
theorem zkl (n : Int) : ∀ (l : List Int) (last : Int),zav n last l = true → ∀ x ∈ l,last < x ∧ x < n
 | [],_,_,x,h => by simp at h
 | y :: r,last,h,x,hx => by
   simp only [zav] at h
   split at h
   ·cases h
   ·rename_i hc
    rcases List.mem_cons.1 hx with rfl | hx
    ·omega
    ·have:=zkl n r y h x hx
     omega
theorem znS (n : Int) : ∀ (l : List Int) (last : Int),zav n last l = true → -1 ≤ last → last < n → (l.length : Int) ≤ n - last - 1
 | [],last,_,h1,h2 => by simp; omega
 | y :: r,last,h,h1,h2 => by
   simp only [zav] at h
   split at h
   ·cases h
   ·rename_i hc
    have:=znS n r y h (by omega) (by omega)
    simp only [yf]
    omega
theorem ze3 {succ : List (List Int)} (h : zdb succ = true) : 1 ≤ succ.length ∧ succ.length ≤ 64 ∧ ∀ l ∈ succ,rising l succ.length = true:=by
 simp only [zdb,yr,Bool.or_eq_false_iff,decide_eq_false_iff_not,List.any_eq_false,yr,Bool.not_eq_false] at h
 exact ⟨by omega,by omega,fun l hl => by simpa using h.2.2 l hl⟩
theorem zof (B : Nat) : ∀ l : List Nat,(∀ x ∈ l,x ≤ B) → l.sum ≤ B * l.length
 | [],_ => by simp
 | x :: r,h => by
   have h1:=h x (by simp)
   have h2:=zof B r fun y hy => h y (by simp [hy])
   simp only [yv,yf,Nat.mul_add]
   omega
theorem zuy (succ : List (List Int)) (hs : zkN succ) (hn : succ.length ≤ 64) (o0 o1 : Ob) (hlt0 : o0.lt 3 = true) (hlt1 : o1.lt 3 = true) : ∀ (d k : Nat) (a0 a2 a3 a5 a6 a10 : V),succ.length - k = d → k ≤ succ.length →
  exec T zd3 ⟨[a0,.one (.ptr 0 0 0 0),a2,a3,.one (.ap 2 0 ((succ.take k).map rl)),a5,a6,vLs succ,vI succ.length,vI k,a10],[o0,o1,.tok 1 [k]],0,0⟩ =
   some (.exit 0,⟨[vU,.one (.ptr 0 0 0 0),vU,vU,.one (.ap 2 0 (succ.map rl)),vU,vU,vU,vU,vU,vU],[o0,o1,.tok 1 [succ.length]],0,0⟩):=by
 intro d
 induction d with
 | zero =>
   intro k a0 a2 a3 a5 a6 a10 h1 h2
   have hk : k = succ.length:=by omega
   subst hk
   rw [xl zd3 rfl,zfY]
   simp -implicitDefEqProofs only [go_sem,yc,List.take_length]
 | succ d ih =>
   intro k a0 a2 a3 a5 a6 a10 h1 h2
   have hk : k < succ.length:=by omega
   have hc:=zna succ[k] (hs.2 _ (yd hk))
   have hlt : (succ.take k).length = k:=by simp; omega
   have hlim : k + 1 ≤ LIM:=by unfold LIM; omega
   have e : (succ.take k).map rl ++ [[Fz.sl (succ[k].map ri)]] = (succ.take (k + 1)).map rl:=by
    rw [yh hk,yo]
    rfl
   rw [xl zd3 rfl,zfY]
   simp -implicitDefEqProofs only [go_sem] at hc
   simp -implicitDefEqProofs only [go_sem,ilt hk,zH hk,rl,hc,hlt,hlim,zd hk hs.1]
   have:=ih (k + 1) vU vU vU vU vU vU (by omega) (by omega)
   rw [← e] at this
   simp -implicitDefEqProofs only [go_sem] at this
   exact this
def zoQ (succ : List (List Int)) : V:=if zdb succ = true then .tup [.agg [.f (.sl (succ.map rl)),.f (.sl ((zam succ).map rl))],vI 0] else .tup [.agg [.f (.sl []),.f (.sl [])],vI 5]
theorem zhK {succ : List (List Int)} (h : zdb succ = true) : (succ.map yk).sum ≤ 4294967296:=by
 obtain ⟨h1,h2,h3⟩:=ze3 h
 have:=zof 64 (succ.map yk) (fun x hx => by
  obtain ⟨l,hl,rfl⟩:=yx.1 hx
  have:=znS _ _ _ (h3 l hl) (by omega) (by omega)
  omega)
 rw [List.length_map] at this
 have h4 : 64 * succ.length ≤ 64 * 64:=Nat.mul_le_mul_left _ h2
 omega
@[go_sem] theorem zhu (succ : List (List Int)) (hs : zkN succ) : call T 147 [vLs succ] [] = some (zoQ succ,[]):=by
  rw [ze (fn:=zc7) rfl]
  have hcf:=zgF succ (fun l => !rising l succ.length) 179 [] [.ptr 1 0 0 0] [.cells 0 2 [[.f (.sl []),.f (.sl [])]],.cells 0 1 [[.f (ei succ.length)]]] hs.1 (fun x hx => zkd x _ (hs.2 x hx) _ _)
  simp -implicitDefEqProofs only [go_sem] at hcf
  by_cases c1 : succ.length < 1
  ·have c1' : (succ.length : Int) < 1:=by omega
   simp -implicitDefEqProofs only [go_sem,zc7,zoQ,zdb,c1,c1']
  have c1' : ¬ (succ.length : Int) < 1:=by omega
  by_cases c2 : 64 < succ.length
  ·have c2' : (64 : Int) < (succ.length : Int):=by omega
   simp -implicitDefEqProofs only [go_sem,zc7,zoQ,zdb,c1,c1',c2,c2']
  have c2' : ¬ (64 : Int) < (succ.length : Int):=by omega
  cases c3 : succ.any fun l => !rising l succ.length
  ·have hok : zdb succ = true:=by simp [zdb,c1,c2,c3]
   obtain ⟨q1,q2,q3⟩:=ze3 hok
   have hl:=fun a0 a2 a3 a5 a6 a10 => zuy succ hs q2 (.cells 0 2 [[.f (.sl []),.f (.sl [])]]) (.cells 0 1 [[.f (ei succ.length)]]) rfl rfl succ.length 0 a0 a2 a3 a5 a6 a10 (by omega) (by omega)
   have hp:=ztq succ hs.1 hs.2 (fun l hl x hx => by have:=zkl _ _ _ (q3 l hl) x hx; omega) (zhK hok)
   have hlim : (succ.length : Int) ≤ (LIM : Int):=by unfold LIM; omega
   simp -implicitDefEqProofs only [go_sem,yt,yb] at hl hp
   simp -implicitDefEqProofs only [go_sem,zc7,c1',c2',hcf,c3,hlim,yp,hl,hp,zoQ,hok]
  ·simp -implicitDefEqProofs only [go_sem,zc7,zoQ,zdb,c1,c1',c2,c2',hcf,c3]
end AC
namespace AC
open Go Go.A Go.A.Lex
theorem zhU (l : List Int) : zdT (l.map ri) = some l:=by
 induction l with
 | nil => rfl
 | cons x r ih => simp [zdT,zr3,ri,zde,ih]
theorem zbP (l : List Int) : zX (l.map zi) = some (l.map ri):=by
 induction l with
 | nil => rfl
 | cons x r ih => simp [zX,zbt,zpI,zi,zde,ih,ri]
theorem zrP (l : List Int) (hl : l.length ≤ 4294967296) (σ : zb) (id : Nat) (hσ : σ[id]? = some (.cells 0 1 [[.f (.sl (l.map ri))]])) :
  call T 145 [.one (.fn 177 [] [.ptr id 0 0 0])] σ = some (.one (.own σ.length 0 0 l.length),σ ++ [.cells 0 1 ((zbG l).map zi)]):=by
 rw [zhJ (g:=zet 177) rfl]
 simp [zet,zb.cell,zb.elem,hσ,Ob.elem,zjU,zhU,zja,LIM,hl]
theorem zqS (l : List Int) (n : Nat) (hn : l.length = n) (hl : n ≤ 4294967296) (σ : zb) (id : Nat) (hσ : σ[id]? = some (.cells 0 1 (l.map zi))) :
  call T 118 [.one (.own id 0 0 n)] σ = some (vIs (zq l),σ.set id (.cells 1 1 [])):=by
 rw [zhJ (g:=zc9) rfl]
 subst hn
 simp [zc9,hσ,zff,LIM,hl,zbP,zhU,zhY,vsl]
 exact fun _ _ => rfl
@[go_sem] theorem zq6 (l : List Int) : call T 146 [vIs l] [] = some (.one (.fn 177 [] [.ptr 0 0 0 0]),[.cells 0 1 [[.f (.sl (l.map ri))]]]):=by
  rw [ze (fn:=zc2) rfl]
  simp -implicitDefEqProofs only [go_sem,zc2]
theorem zkY (l : List Int) : (zbG l).length = l.length:=List.length_mergeSort l
theorem zl9 (k n : Int) (o0 o1 : Ob) (r : zb) : call T 144 [vI k,.one (.ptr 2 0 0 0)] (o0 :: o1 :: .cells 0 1 [[.f (ei n)]] :: r) = some (vB (ztv n k),o0 :: o1 :: .cells 0 1 [[.f (ei n)]] :: r):=by
 rw [ze (fn:=zeU) rfl]
 by_cases c : k < 1
 ·simp -implicitDefEqProofs only [go_sem,zeU,ztv,c]
 ·by_cases d : n ≤ k <;> simp -implicitDefEqProofs only [go_sem,zeU,ztv,c,d]
def zpM (n : Nat) (b : PBlock) : Bool:=decide (zqX b.kind = b.to.length) && !b.to.any (ztv n)
def zf7 (n : Nat) : Nat → List PBlock → Option (Nat × PBlock)
 | _,[] => none
 | k,b :: r => if zpM n b = true then zf7 n (k + 1) r else some (k,b)
def zz9 (l : List Int) : List Int:=zq (zbG l)
def zI (f : PFunc) : List (List Int):=f.blocks.map fun b => zz9 b.to
theorem zzI (f : PFunc) (hf : okF f) (hn : f.blocks.length ≤ 64) : ∀ (d k : Nat) (a0 a1 a3 a6 a7 a11 a12 : V),f.blocks.length - k = d → k ≤ f.blocks.length →
  exec T zga ⟨[a0,a1,.one (.ptr 1 0 0 0),a3,.one (.ptr 2 0 0 0),.one (.ap 3 0 (((zI f).take k).map rl)),a6,a7,vL (f.blocks.map rb),vI f.blocks.length,vI k,a11,a12],[.cells 0 3 [zbI f],.cells 0 2 [[.f (.sl []),.f (.sl [])]],.cells 0 1 [[.f (ei f.blocks.length)]],.tok 1 [k]],0,0⟩ =
   some (match zf7 f.blocks.length k (f.blocks.drop k) with
    | none => (.exit 0,⟨[vU,vU,.one (.ptr 1 0 0 0),vU,vU,.one (.ap 3 0 ((zI f).map rl)),vU,vU,vU,vU,vU,vU,vU],[.cells 0 3 [zbI f],.cells 0 2 [[.f (.sl []),.f (.sl [])]],.cells 0 1 [[.f (ei f.blocks.length)]],.tok 1 [f.blocks.length]],0,0⟩)
    | some (j,b) => (.ret,⟨[vU,vU,.one (.ptr 1 0 0 0),vI 5,vU,vU,vU,vU,vU,vU,vU,vU,vU],[.cells 0 3 [zbI f],.cells 0 2 [[.f (.sl []),.f (.sl [])]],.cells 0 1 [[.f (ei f.blocks.length)]],.tok 1 [j],.cells 0 5 [zw b]],0,0⟩)):=by
 intro d
 induction d with
 | zero =>
   intro k a0 a1 a3 a6 a7 a11 a12 q1 q2
   have hk : k = f.blocks.length:=by omega
   subst hk
   have e : (zI f).take f.blocks.length = zI f:=yl (by simp [zI])
   rw [xl zga rfl,zix,e]
   simp -implicitDefEqProofs only [go_sem,yc,ye,zf7]
 | succ d ih =>
   intro k a0 a1 a3 a6 a7 a11 a12 q1 q2
   have hk : k < f.blocks.length:=by omega
   have hd : f.blocks.drop k = f.blocks[k] :: f.blocks.drop (k + 1):=ya hk
   have hm:=hf.block _ (yd hk)
   rw [xl zga rfl,zix,hd,zf7]
   by_cases c1 : zqX f.blocks[k].kind = f.blocks[k].to.length
   ·have hc:=zV f.blocks[k].to (ztv f.blocks.length) 144 [] [.ptr 2 0 0 0] [.cells 0 3 [zbI f],.cells 0 2 [[.f (.sl []),.f (.sl [])]],.cells 0 1 [[.f (ei f.blocks.length)]],.tok 1 [k],.cells 0 5 [zw f.blocks[k]]] hm.to (fun x _ => zl9 x _ _ _ _)
    cases c2 : f.blocks[k].to.any (ztv f.blocks.length)
    ·have hlt : ((zI f).take k).length = k:=by simp [zI]; omega
     have hlim : k + 1 ≤ LIM:=by unfold LIM; omega
     have hv:=zq6 f.blocks[k].to
     have hs:=zrP f.blocks[k].to hm.to [.cells 0 3 [zbI f],.cells 0 2 [[.f (.sl []),.f (.sl [])]],.cells 0 1 [[.f (ei f.blocks.length)]],.tok 1 [k],.cells 0 5 [zw f.blocks[k]],.cells 0 1 [[.f (.sl (f.blocks[k].to.map ri))]]] 5 rfl
     have hcp:=zqS (zbG f.blocks[k].to) f.blocks[k].to.length (zkY _) hm.to [.cells 0 3 [zbI f],.cells 0 2 [[.f (.sl []),.f (.sl [])]],.cells 0 1 [[.f (ei f.blocks.length)]],.tok 1 [k],.cells 0 5 [zw f.blocks[k]],.cells 0 1 [[.f (.sl (f.blocks[k].to.map ri))]],.cells 0 1 ((zbG f.blocks[k].to).map zi)] 6 rfl
     have e : ((zI f).take k).map rl ++ [[Fz.sl ((zq (zbG f.blocks[k].to)).map ri)]] = ((zI f).take (k + 1)).map rl:=by
      rw [yh (by simpa [zI] using hk),yo]
      simp [zI,rl,zz9]
     have:=ih (k + 1) vU vU vU vU vU vU vU (by omega) (by omega)
     rw [← e] at this
     simp -implicitDefEqProofs only [go_sem] at hc hv hs hcp this
     simp -implicitDefEqProofs only [go_sem,ilt hk,zH hk,rb,c1,hc,c2,zpM,hv,hs,hcp,hlt,hlim,zd hk hf.blocks] at this ⊢
     exact this
    ·simp -implicitDefEqProofs only [go_sem] at hc
     simp -implicitDefEqProofs only [go_sem,ilt hk,zH hk,rb,c1,hc,c2,zpM]
   ·have c1' : ¬ zqX f.blocks[k].kind = (f.blocks[k].to.length : Int):=c1
    simp -implicitDefEqProofs only [go_sem,ilt hk,zH hk,rb,c1,zpM]
theorem zkZ (n : Nat) : ∀ (bs : List PBlock) (k : Nat),(zf7 n k bs).isNone = bs.all (zpM n)
 | [],_ => rfl
 | b :: r,k => by
   simp only [zf7,List.all_cons]
   cases h : zpM n b
   ·simp
   ·simpa using zkZ n r (k + 1)
theorem zhq : ∀ l : List Int,(zq l).length ≤ l.length
 | [] => by simp [zq]
 | [x] => by simp [zq]
 | x :: y :: r => by
   have:=zhq (y :: r)
   simp only [zq]
   split
   ·simp only [yf] at this ⊢; omega
   ·simp only [yf] at this ⊢; omega
theorem zpJ (l : List Int) : (zz9 l).length ≤ l.length:=by
 have:=zhq (zbG l)
 rwa [zkY] at this
theorem zl5 {f : PFunc} (hf : okF f) : zkN (zI f):=by
 refine ⟨by simpa [zI] using hf.blocks,fun l hl => ?_⟩
 obtain ⟨b,hb,rfl⟩:=yx.1 hl
 have:=zpJ b.to
 have:=(hf.block b hb).to
 omega
def za5 (f : PFunc) : Bool:=!decide (64 < f.blocks.length) && (f.blocks.all (zpM f.blocks.length) && zdb (zI f))
def zmd (f : PFunc) : V:=if za5 f = true then .tup [.agg [.f (.sl ((zI f).map rl)),.f (.sl ((zam (zI f)).map rl))],vI 0] else .tup [.agg [.f (.sl []),.f (.sl [])],vI 5]
@[go_sem] theorem zjd (f : PFunc) (hf : okF f) : call T 98 [zgP f] [] = some (zmd f,[]):=by
  rw [ze (fn:=zec) rfl]
  by_cases c1 : 64 < f.blocks.length
  ·have c1' : (64 : Int) < (f.blocks.length : Int):=by omega
   simp -implicitDefEqProofs only [go_sem,zec,c1,c1',zmd,za5]
  have c1' : ¬ (64 : Int) < (f.blocks.length : Int):=by omega
  have hl:=fun a0 a1 a3 a6 a7 a11 a12 => zzI f hf (by omega) f.blocks.length 0 a0 a1 a3 a6 a7 a11 a12 (by omega) (by omega)
  have ha:=zkZ f.blocks.length f.blocks 0
  simp only [yg,yb,yt] at hl
  cases e : zf7 f.blocks.length 0 f.blocks with
  | some x =>
    rw [e] at ha
    simp only [Option.isNone_some] at ha
    obtain ⟨j,b⟩:=x
    simp -implicitDefEqProofs only [go_sem,e] at hl
    simp -implicitDefEqProofs only [go_sem,zec,c1,c1',hl,zmd,za5,← ha]
  | none =>
    rw [e] at ha
    simp only [Option.isNone_none] at ha
    have hm:=zhu (zI f) (zl5 hf)
    cases e2 : zdb (zI f)
    ·simp -implicitDefEqProofs only [go_sem,e,zoQ,e2] at hl hm
     simp -implicitDefEqProofs only [go_sem,zec,c1,c1',hl,hm,zmd,za5,← ha,e2]
    ·simp -implicitDefEqProofs only [go_sem,e,zoQ,e2] at hl hm
     simp -implicitDefEqProofs only [go_sem,zec,c1,c1',hl,hm,zmd,za5,← ha,e2]
end AC
namespace AC
open Go Go.A Go.A.Lex
theorem zq1 {t : List Int} {a : Int} (h0 : ¬ a < 0) (h1 : ¬ (t.length : Int) ≤ a) : (t.map ri)[a.toNat]? = some [.lit (.int .i64 (tr t a))]:=by
 have : a.toNat < t.length:=by omega
 rw [zH this]
 simp [tr,this,ri]
theorem ztC (t : List Int) (hl : t.length ≤ 4294967296) : ∀ (d k : Nat) (a : Int) (a2 a3 a6 a7 a8 : V),t.length - k = d → k ≤ t.length →
  exec T zeY ⟨[vIs t,vI a,a2,a3,vI t.length,vI k,a6,a7,a8],[],0,0⟩ =
   some (match zT t d k a with
    | none => (.exit 0,⟨[vU,vU,vU,vU,vU,vU,vU,vU,vU],[],0,0⟩)
    | some n => (.ret,⟨[vU,vU,vI n,vU,vU,vU,vU,vU,vU],[],0,0⟩)):=by
 intro d
 induction d with
 | zero =>
   intro k a a2 a3 a6 a7 a8 h1 h2
   have hk : k = t.length:=by omega
   subst hk
   rw [xl zeY rfl,zgT]
   simp -implicitDefEqProofs only [go_sem,yc,zT]
 | succ d ih =>
   intro k a a2 a3 a6 a7 a8 h1 h2
   have hk : k < t.length:=by omega
   rw [xl zeY rfl,zgT,zT]
   by_cases c1 : a < 0
   ·simp -implicitDefEqProofs only [go_sem,ilt hk,c1]
   by_cases c2 : (t.length : Int) ≤ a
   ·simp -implicitDefEqProofs only [go_sem,ilt hk,c1,c2]
   have c0 : 0 ≤ a:=by omega
   have c3 : a < (t.length : Int):=by omega
   by_cases c4 : tr t a = -1
   ·simp -implicitDefEqProofs only [go_sem,ilt hk,c0,c1,c2,c3,zq1 c1 c2,c4]
   ·have:=ih (k + 1) (tr t a) vU vU vU vU vU (by omega) (by omega)
    simp -implicitDefEqProofs only [go_sem] at this
    simp -implicitDefEqProofs only [go_sem,ilt hk,c0,c1,c2,c3,zq1 c1 c2,c4,zd hk hl]
    rw [this]
    rfl
@[go_sem] theorem zh2 (t : List Int) (a : Int) (hl : t.length ≤ 4294967296) : call T 250 [vIs t,vI a] [] = some (vI (zA t a),[]):=by
  rw [ze (fn:=ziD) rfl]
  have h:=fun a2 a3 a6 a7 a8 => ztC t hl t.length 0 a a2 a3 a6 a7 a8 (by omega) (by omega)
  simp only [yb] at h
  cases e : zT t t.length 0 a <;> simp -implicitDefEqProofs only [go_sem,e] at h <;> simp -implicitDefEqProofs only [go_sem,ziD,h,zA,e,Option.getD_none,Option.getD_some]
theorem zuc (t : List Int) (hl : t.length ≤ 4294967296) : ∀ (d k n : Nat) (a1 a3 a4 a8 a9 a10 : V),t.length - k = d → k ≤ t.length → n ≤ k →
  exec T zeS ⟨[vIs t,a1,vI n,a3,a4,vIs t,vI t.length,vI k,a8,a9,a10],[],0,0⟩ =
   some (match zbf t k n (t.drop k) with
    | none => (.ret,⟨[vU,vB false,vU,vU,vU,vU,vU,vU,vU,vU,vU],[],0,0⟩)
    | some n => (.exit 0,⟨[vU,vU,vI n,vU,vU,vU,vU,vU,vU,vU,vU],[],0,0⟩)):=by
 intro d
 induction d with
 | zero =>
   intro k n a1 a3 a4 a8 a9 a10 h1 h2 h3
   have hk : k = t.length:=by omega
   subst hk
   rw [xl zeS rfl,zhj]
   simp -implicitDefEqProofs only [go_sem,yc,ye,zbf]
 | succ d ih =>
   intro k n a1 a3 a4 a8 a9 a10 h1 h2 h3
   have hk : k < t.length:=by omega
   have hd : t.drop k = t[k] :: t.drop (k + 1):=ya hk
   have hc:=zh2 t k hl
   have hn:=zd (k:=n) (n:=t.length) (by omega) hl
   rw [xl zeS rfl,zhj,hd,zbf]
   simp -implicitDefEqProofs only [go_sem] at hc
   by_cases c1 : t[k] = -2
   ·have:=ih (k + 1) n vU vU vU vU vU vU (by omega) (by omega) (by omega)
    simp -implicitDefEqProofs only [go_sem] at this
    simp -implicitDefEqProofs only [go_sem,ilt hk,zH hk,ri,c1,zd hk hl]
    rw [this]
    all_goals rfl
   ·by_cases c2 : t[k] = -1
    ·by_cases c3 : zA t k < 0
     ·simp -implicitDefEqProofs only [go_sem,ilt hk,zH hk,ri,c1,c2,hc,c3,hn]
     ·have:=ih (k + 1) (n + 1) vU vU vU vU vU vU (by omega) (by omega) (by omega)
      simp -implicitDefEqProofs only [go_sem] at this
      simp -implicitDefEqProofs only [go_sem,ilt hk,zH hk,ri,c1,c2,hc,c3,hn,zd hk hl]
      rw [this]
      all_goals rfl
    ·by_cases c3 : zA t k < 0
     ·simp -implicitDefEqProofs only [go_sem,ilt hk,zH hk,ri,c1,c2,hc,c3]
     ·have:=ih (k + 1) n vU vU vU vU vU vU (by omega) (by omega) (by omega)
      simp -implicitDefEqProofs only [go_sem] at this
      simp -implicitDefEqProofs only [go_sem,ilt hk,zH hk,ri,c1,c2,hc,c3,zd hk hl]
      rw [this]
      all_goals rfl
@[go_sem] theorem zt7 (t : List Int) (hl : t.length ≤ 4294967296) : call T 248 [vIs t] [] = some (vB (zfD t),[]):=by
  rw [ze (fn:=zew) rfl]
  have h:=fun a1 a3 a4 a8 a9 a10 => zuc t hl t.length 0 0 a1 a3 a4 a8 a9 a10 (by omega) (by omega) (by omega)
  simp only [yb,yg] at h
  cases e : zbf t 0 0 t with
  | none =>
    simp -implicitDefEqProofs only [go_sem,e] at h
    simp -implicitDefEqProofs only [go_sem,zew,h,zfD,e]
    rfl
  | some n =>
    simp -implicitDefEqProofs only [go_sem,e] at h
    by_cases c : n = 1
    ·subst c
     simp -implicitDefEqProofs only [go_sem,zew,h,zfD,e]
     rfl
    ·have c' : ¬ (n : Int) = 1:=by omega
     have c2 : (some n == some 1) = false:=by simpa using c
     simp -implicitDefEqProofs only [go_sem,zew,h,zfD,e,c',c2]
theorem zoz (t : List Int) (a : Int) (hl : t.length ≤ 4294967296) (r : zb) : call T 249 [vI a,.one (.ptr 0 0 0 0)] (.cells 0 1 [[.f (eI t)]] :: r) = some (vB (decide (zA t a < 0)),.cells 0 1 [[.f (eI t)]] :: r):=by
 rw [ze (fn:=zki) rfl]
 have h:=zh2 t a hl
 simp -implicitDefEqProofs only [go_sem] at h
 simp -implicitDefEqProofs only [go_sem,zki,h]
theorem zrM (t l : List Int) (hl : t.length ≤ 4294967296) (hll : l.length ≤ 4294967296) : call T 232 [vIs t,vIs l] [] = some (vB (inS t l),[]):=by
 rw [ze (fn:=zoY) rfl]
 have hc:=zV l (fun a => decide (zA t a < 0)) 249 [] [.ptr 0 0 0 0] [.cells 0 1 [[.f (eI t)]]] hll (fun x _ => zoz t x hl [])
 have hr:=zt7 t hl
 simp -implicitDefEqProofs only [go_sem] at hc
 cases c : zfD t <;> simp -implicitDefEqProofs only [go_sem,c] at hr <;> simp -implicitDefEqProofs only [go_sem,zoY,hr,c,hc,inS]
theorem zkX (t : List Int) (a b : Int) (hl : t.length ≤ 4294967296) : call T 232 [vIs t,vL [[ei a],[ei b]]] [] = some (vB (inS t [a,b]),[]):=zrM t [a,b] hl (by simp)
theorem zuv (t : List Int) (hl : t.length ≤ 4294967296) (hr : zfD t = true) : ∀ (d : Nat) (a b : Int) (a3 a4 a5 a6 : V),0 ≤ zA t a → 0 ≤ zA t b → zA t a + zA t b ≤ d →
  exec T zge ⟨[vIs t,vI a,vI b,a3,a4,a5,a6],[],0,0⟩ = some (.exit 0,⟨[vU,vI (zgp t d a b),vU,vU,vU,vU,vU],[],0,0⟩):=by
 intro d
 induction d with
 | zero =>
   intro a b a3 a4 a5 a6 ha hb hd
   have ia:=zeI ha
   have ib:=zeI hb
   have e : a = b:=zqT hr ia ib (zez (by omega)) (zez (by omega))
   subst e
   rw [xl zge rfl,ziU]
   simp -implicitDefEqProofs only [go_sem,zgp]
 | succ d ih =>
   intro a b a3 a4 a5 a6 ha hb hd
   obtain ⟨a0,a1⟩:=zeI ha
   obtain ⟨b0,b1⟩:=zeI hb
   have ca:=zh2 t a hl
   have cb:=zh2 t b hl
   simp -implicitDefEqProofs only [go_sem] at ca cb
   rw [xl zge rfl,ziU,zgp]
   by_cases c1 : a = b
   ·subst c1
    simp -implicitDefEqProofs only [go_sem]
   by_cases c2 : zA t b ≤ zA t a
   ·have hne : tr t a ≠ -1:=fun e => by
     have h1:=zhL a0 a1 e
     exact c1 (zqT hr ⟨a0,a1⟩ ⟨b0,b1⟩ e (zez (by omega)))
    have hs:=zc0 ha hne
    have:=ih (tr t a) b vU vU vU vU (by omega) hb (by omega)
    simp -implicitDefEqProofs only [go_sem] at this
    simp -implicitDefEqProofs only [go_sem,c1,c2,ca,cb,a0,zq1 (t:=t) (a:=a) (by omega) (by omega),this]
   ·have hne : tr t b ≠ -1:=fun e => by
     have h1:=zhL b0 b1 e
     omega
    have hs:=zc0 hb hne
    have:=ih a (tr t b) vU vU vU vU ha (by omega) (by omega)
    simp -implicitDefEqProofs only [go_sem] at this
    simp -implicitDefEqProofs only [go_sem,c1,c2,ca,cb,b0,zq1 (t:=t) (a:=b) (by omega) (by omega),this]
@[go_sem] theorem zv6 (t : List Int) (a b : Int) (hl : t.length ≤ 4294967296) : call T 233 [vIs t,vI a,vI b] [] = some (vI (zt2 t a b),[]):=by
  rw [ze (fn:=zhO) rfl]
  have hi:=zkX t a b hl
  cases c : inS t [a,b]
  ·simp -implicitDefEqProofs only [go_sem,c] at hi
   simp -implicitDefEqProofs only [go_sem,zhO,hi,c,zt2]
  ·obtain ⟨h1,h2,h3⟩:=zzk c
   have h:=fun a3 a4 a5 a6 => zuv t hl h1 (zA t a + zA t b).toNat a b a3 a4 a5 a6 h2 h3 (by omega)
   simp -implicitDefEqProofs only [go_sem,c] at hi h
   simp -implicitDefEqProofs only [go_sem,zhO,hi,c,zt2,h]
@[go_sem] theorem zmc (t : List Int) (a b : Int) (hl : t.length ≤ 4294967296) : call T 196 [vIs t,vI a,vI b] [] = some (vB (zia t a b),[]):=by
  rw [ze (fn:=zj7) rfl]
  have hi:=zkX t a b hl
  have hm:=zv6 t a b hl
  simp -implicitDefEqProofs only [go_sem] at hm
  cases c : inS t [a,b] <;> simp -implicitDefEqProofs only [go_sem,c] at hi <;> simp -implicitDefEqProofs only [go_sem,zj7,hi,hm,c,zia]
end AC
