/- A part of the proof of SchedDepth. Conditions: none. -/
import Derived.Test.YtmkncmffaaninaaGreatDBD
import Derived.Test.YtmkncmffaaninaaGreatDBC
set_option linter.unusedVariables false
set_option linter.unusedSimpArgs false
set_option linter.unusedSectionVars false
open List renaming replicate → ya,take_of_length_le → yb,append_assoc → yc,singleton_append → ye,drop_eq_getElem_cons → yf,length_cons → yi,map_set → yl,drop_length → ym,nil_append → yn,map_replicate → yp,all_eq_true → yq,getElem_mem → yr,cons_append → yt,map → yw
open Bool renaming and_eq_true → yd,true_and → yu
open Option renaming bind_some → yg
open Int renaming toNat_natCast → yh,natCast_nonneg → yj,natCast_zero → yk,lt_irrefl → yo,reduceToNat → ys
open Nat renaming zero_le → yv
namespace AC
open Go Go.A Go.A.Lex
@[go_sem] theorem zp4 (succ pred : List (List Int)) (hs : zjo succ) : call T 148 [.agg [.f (.sl (succ.map rl)),.f (.sl (pred.map rl))]] [] = some (vB (zAr succ pred),[]):=by
  rw [ze (fn:=ziu) rfl]
  have hm:=zjs succ hs
  cases e : zbk succ
  ·simp -implicitDefEqProofs only [go_sem,zjJ,e] at hm
   simp -implicitDefEqProofs only [go_sem,ziu,hm,zAr,e]
  ·have hq:=zkX (zM succ) pred [.cells 0 2 [[.f (.sl (succ.map rl)),.f (.sl (pred.map rl))]],.cells 0 2 [[.f (.sl (succ.map rl)),.f (.sl ((zM succ).map rl))]]] (by rw [zb0]; exact hs.1) (zjm succ hs (zgG e))
   simp -implicitDefEqProofs only [go_sem,zjJ,e] at hm hq
   simp -implicitDefEqProofs only [go_sem,ziu,hm,hq,zAr,e]
theorem zjg : zp0.length = 64:=rfl
theorem znJ : znQ.length = 64:=rfl
def zFL : Go.A.Code:=zr.p1
def zFC : Go.A.Code:=zr.p2.p1
def zFp : Go.A.Code:=zr.p2.p2.p1
def zFl : Go.A.Code:=zr.p2.p2.p2.p1
def zFg : Go.A.Code:=zr.p2.p2.p2.p2.p1
def zFz : Go.A.Code:=zr.p2.p2.p2.p2.p2.p1
theorem zFd : zr = .seq zFL (.seq zFC (.seq zFp (.seq zFl (.seq zFg (.seq zFz (.seq (.label 0) zjI)))))):=rfl
theorem zC4 (succ pred : List (List Int)) (hs : zjo succ) (hm : zAr succ pred = true) (root : Nat) (hr : root < succ.length) : exec T zFL ⟨[.agg [.f (.sl (succ.map rl)),.f (.sl (pred.map rl))],vI root,.one (.ptr 0 0 0 0),vL [],vU,vU,vU,vU,vU,vU,vU,vU,vU,vU],[obG succ pred],0,0⟩ =
  some (.normal,⟨[.agg [.f (.sl (succ.map rl)),.f (.sl (pred.map rl))],vI root,.one (.ptr 0 0 0 0),vL [],vU,vU,vU,vU,vU,vU,vB false,vU,vU,vU],[obG succ pred],0,0⟩):=by
 have h:=zp4 succ pred hs
 rw [hm] at h
 have h1 : ¬ (root : Int) < 0:=by omega
 have h2 : ¬ (succ.length : Int) ≤ (root : Int):=by omega
 simp -implicitDefEqProofs only [go_sem] at h
 simp -implicitDefEqProofs only [go_sem,zFL,zr,Code.p1,obG,h,h1,h2]
theorem zBe (succ pred : List (List Int)) (root : Nat) (hr : root < 64) (c : Go.A.Code) (a0 a3 a10 : V) : exec T (.seq zFC (.seq zFp (.seq zFl (.seq zFg (.seq zFz c))))) ⟨[a0,vI root,.one (.ptr 0 0 0 0),a3,vU,vU,vU,vU,vU,vU,a10,vU,vU,vU],[obG succ pred],0,0⟩ =
  exec T c ⟨[a0,vI root,.one (.ptr 0 0 0 0),a3,.one (.ptr 1 0 0 0),.one (.ptr 2 0 0 0),.one (.own 3 0 0 0),.one (.own 4 0 0 1),vU,vU,a10,vU,vU,vU],stO succ pred (zp0.set root true) znQ 0 [] 0 [(root : Int)],0,0⟩:=by
 have hi : ((root : Int) < 64) = True:=by simp; omega
 have hov:=zuM (e:=zp0.map cB) (k:=root) (.f (.lit (.bool true))) (by rw [List.length_map,zjg]; exact hr)
 have h2 : (zp0.map cB).set root (C.f (.lit (.bool true))) = (zp0.set root true).map cB:=by rw [yl]; rfl
 rw [h2] at hov
 have hle:=zxT (show root < 64 by omega)
 have hB : zFC = .reg [w 4 (.al (zp0.map cB) [])]:=rfl
 have hC : zFp = .reg [w 5 (.al (znQ.map cN) [])]:=rfl
 rw [hB,hC]
 simp -implicitDefEqProofs only [go_sem,zFl,zFg,zFz,zr,Code.p1,Code.p2,obG,stO,zjg,znJ,hi,yj,yh,Nat.mul_one,hov,hle,zj]
@[go_sem] theorem zwE (succ pred : List (List Int)) (hs : zjo succ) (hm : zAr succ pred = true) (root : Nat) (hr : root < succ.length) (k : Nat) (hk : k ≤ 4294967295) (o : List Int) (ho : dfs succ k (zsn root) = some o) :
   call T 100 [.agg [.f (.sl (succ.map rl)),.f (.sl (pred.map rl))],vI root] [] = some (vIs o.reverse,[]):=by
  rw [ze (fn:=ziO) rfl]
  have hmk : zbk succ = true:=by simp only [zAr,yd] at hm; exact hm.1
  obtain ⟨q1,q2,q3⟩:=zf5 hmk
  have hrr : ∀ l ∈ succ,∀ y ∈ l,0 ≤ y ∧ y < (succ.length : Int):=fun l hl y hy => by have:=zne _ _ _ (q3 l hl) y hy; omega
  have hd : DInv succ (zsn root):=⟨by simp [zsn,zjg],znJ,fun X hX => by
   have : znQ.getD X 0 = 0:=by
    have h64 : X < 64:=by omega
    have h : znQ[X]? = some 0:=by
     unfold znQ
     rw [List.getElem?_replicate,if_pos h64]
    rw [List.getD_eq_getElem?_getD,h]
    rfl
   simp only [zsn]
   omega,fun x hx => by simp [zsn] at hx; omega⟩
  obtain ⟨seen',next',vo',vs',row',h⟩:=zDw succ pred q2 hs.2 hrr k (zsn root) [] 0 0 o (.agg [.f (.sl (succ.map rl)),.f (.sl (pred.map rl))]) (vI root) (vL []) vU vU (vB false) vU vU vU hd (by simp [zsn]; omega) (by simp [zsn]; omega) ho
  have e1 : exec T (.scope zr) ⟨[.agg [.f (.sl (succ.map rl)),.f (.sl (pred.map rl))],vI root,.one (.ptr 0 0 0 0),vL [],vU,vU,vU,vU,vU,vU,vU,vU,vU,vU],[obG succ pred],0,0⟩ = some (.ret,⟨[vU,vU,vU,.one (.own 3 vo' 0 o.length),vU,vU,vU,vU,vU,vU,vU,vU,vU,vU],stO succ pred seen' next' vo' o.reverse vs' row',0,0⟩):=by
   rw [← h,zmA,zgP,zgP]
   congr 1
   rw [zqj,zgt,zg9]
   simp only [yg,zso]
   rw [zFd,zgt,zC4 succ pred hs hm root hr]
   simp only [yg,zso]
   rw [zBe succ pred root (by omega),zgt,zqV]
   rfl
  have htk : (o.reverse.map zj).take o.length = o.reverse.map zj:=yb (by simp)
  simp -implicitDefEqProofs only [go_sem,obG,stO] at e1
  simp -implicitDefEqProofs only [go_sem,ziO,e1,htk,zdb]
end AC
namespace AC
open Go Go.A Go.A.Lex
def zFH : List C → Bool
 | [.f (.lit (.int .i64 k))] => decide (k = -2)
 | _ => false
def zCp (n : Nat) : Bool:=match zfy T (zN T 3000) 230 [vL [[ei (-2)]],vI n] [] with
 | some (.one (.own 0 0 0 m),[.cells 0 1 rows]) => decide (m = n) && (decide (rows.length = n) && rows.all zFH)
 | _ => false
set_option maxRecDepth 100000 in
theorem zDn : ((List.range 64).all fun n => zCp (n + 1)) = true:=by kernel_rfl
theorem zC2 {r : List C} (h : zFH r = true) : r = zj (-2):=by
 unfold zFH at h
 split at h
 ·simp only [decide_eq_true_eq] at h
  subst h
  rfl
 ·cases h
theorem zuY (n : Nat) (h1 : 1 ≤ n) (hn : n ≤ 64) : call T 230 [vL [[ei (-2)]],vI n] [] = some (.one (.own 0 0 0 n),[.cells 0 1 ((ya n (-2 : Int)).map zj)]):=by
 have h:=yq.1 zDn (n - 1) (List.mem_range.2 (by omega))
 rw [show n - 1 + 1 = n by omega] at h
 unfold zCp at h
 split at h
 ·rename_i m rows he
  simp only [yd,decide_eq_true_eq,yq] at h
  obtain ⟨rfl,h2,h3⟩:=h
  have : rows = (ya m (-2 : Int)).map zj:=by
   rw [yp]
   exact List.eq_replicate_iff.2 ⟨h2,fun r hr => zC2 (h3 r hr)⟩
  rw [← this]
  exact zj7 he
 ·cases h
theorem zjD {n : Nat} {a : Int} (h : inR n a = true) : 0 ≤ a ∧ a < (n : Int) ∧ ¬ a < 0 ∧ ¬ (n : Int) ≤ a:=by
 simp only [inR,yd,decide_eq_true_eq] at h
 omega
section
variable (t at' : List Int)
theorem zBr : ∀ (r : Nat) (a b c : Int) (a4 a5 a6 a7 : V),zor t at' r a b = some c →
  exec T zk6 ⟨[vIs t,vIs at',vI a,vI b,a4,a5,a6,a7],[],0,0⟩ = some (.exit 2,⟨[vIs t,vIs at',vI c,vI b,vU,vU,vU,vU],[],0,0⟩):=by
 intro r
 induction r with
 | zero => intro a b c _ _ _ _ h; simp [zor] at h
 | succ r ih =>
   intro a b c a4 a5 a6 a7 h
   rw [zor] at h
   split at h
   ·rename_i hr
    simp only [yd] at hr
    obtain ⟨h1,h2,h3⟩:=hr
    obtain ⟨p1,p2,p3,p4⟩:=zjD h1
    obtain ⟨q1,q2,q3,q4⟩:=zjD h2
    obtain ⟨s1,s2,s3,s4⟩:=zjD h3
    rw [xl zk6 rfl,zon]
    split at h
    ·rename_i hc
     have:=ih _ b c vU vU vU vU h
     simp -implicitDefEqProofs only [go_sem] at this
     simp -implicitDefEqProofs only [go_sem,p1,q1,s1,ztU p3 p4,ztU q3 q4,ztU s3 s4,hc,this]
    ·rename_i hc
     injection h with h
     subst h
     simp -implicitDefEqProofs only [go_sem,p1,q1,s1,ztU p3 p4,ztU q3 q4,ztU s3 s4,hc]
   ·cases h
theorem zBi : ∀ (r : Nat) (a b c : Int) (a4 a5 a6 a7 : V),zor t at' r b a = some c →
  exec T zk1 ⟨[vIs t,vIs at',vI a,vI b,a4,a5,a6,a7],[],0,0⟩ = some (.exit 4,⟨[vIs t,vIs at',vI a,vI c,vU,vU,vU,vU],[],0,0⟩):=by
 intro r
 induction r with
 | zero => intro a b c _ _ _ _ h; simp [zor] at h
 | succ r ih =>
   intro a b c a4 a5 a6 a7 h
   rw [zor] at h
   split at h
   ·rename_i hr
    simp only [yd] at hr
    obtain ⟨h1,h2,h3⟩:=hr
    obtain ⟨p1,p2,p3,p4⟩:=zjD h1
    obtain ⟨q1,q2,q3,q4⟩:=zjD h2
    obtain ⟨s1,s2,s3,s4⟩:=zjD h3
    rw [xl zk1 rfl,zoN]
    split at h
    ·rename_i hc
     have:=ih a _ c vU vU vU vU h
     simp -implicitDefEqProofs only [go_sem] at this
     simp -implicitDefEqProofs only [go_sem,p1,q1,s1,ztU p3 p4,ztU q3 q4,ztU s3 s4,hc,this]
    ·rename_i hc
     injection h with h
     subst h
     simp -implicitDefEqProofs only [go_sem,p1,q1,s1,ztU p3 p4,ztU q3 q4,ztU s3 s4,hc]
   ·cases h
theorem zCP (K : Nat) : ∀ (r : Nat) (a b c : Int) (a4 a5 a6 a7 : V),zsy t at' K r a b = some c →
  exec T zlr ⟨[vIs t,vIs at',vI a,vI b,a4,a5,a6,a7],[],0,0⟩ = some (.exit 0,⟨[vU,vU,vI c,vU,vU,vU,vU,vU],[],0,0⟩):=by
 intro r
 induction r with
 | zero => intro a b c _ _ _ _ h; simp [zsy] at h
 | succ r ih =>
   intro a b c a4 a5 a6 a7 h
   rw [zsy] at h
   rw [xl zlr rfl,zos]
   split at h
   ·rename_i hc
    injection h with h
    subst h
    subst hc
    simp -implicitDefEqProofs only [go_sem]
   ·rename_i hc
    split at h
    ·cases h
    ·rename_i a' h1
     split at h
     ·cases h
     ·rename_i b' h2
      have e1:=fun a4 a5 a6 a7 => zBr t at' K a b a' a4 a5 a6 a7 h1
      have e2:=fun a4 a5 a6 a7 => zBi t at' K a' b b' a4 a5 a6 a7 h2
      have:=ih a' b' c vU vU vU vU h
      simp -implicitDefEqProofs only [go_sem] at e1 e2 this
      simp -implicitDefEqProofs only [go_sem,hc,e1,e2,this]
theorem zzB (K r : Nat) (a b c : Int) (h : zsy t at' K r a b = some c) : call T 231 [vIs t,vIs at',vI a,vI b] [] = some (vI c,[]):=by
 rw [ze (fn:=zna) rfl]
 have:=fun a4 a5 a6 a7 => zCP t at' K r a b c a4 a5 a6 a7 h
 simp -implicitDefEqProofs only [go_sem] at this
 simp -implicitDefEqProofs only [go_sem,zna,this]
end
end AC
namespace AC
open Go Go.A Go.A.Lex
theorem zuE {t : List Int} {a : Int} (h0 : ¬ a < 0) (h1 : ¬ (t.length : Int) ≤ a) : (t.map zj)[a.toNat]? = some [.f (.lit (.int .i64 (tr t a)))]:=by
 have : a.toNat < t.length:=by omega
 simp [tr,this,zj]
section
variable (succ pred : List (List Int)) (hpl : pred.length = succ.length) (hps : ∀ l ∈ pred,l.length ≤ 4294967296) (n : Nat) (hn : n = succ.length) (hn64 : n ≤ 64) (root : Int) (order tail at' : List Int) (hat : at'.length = n) (htl : tail.length ≤ 4294967296)
abbrev stT (succ pred : List (List Int)) (t at' : List Int) : zd:=[obG succ pred,.cells 0 1 (t.map zj),.cells 0 1 (at'.map zj)]
include hpl hps hn hn64 hat htl
theorem zDE (K : Nat) (t : List Int) (ht : t.length = n) (x : Int) (kx : Int) (ps : List Int) (hps0 : ps.length ≤ 4294967296) : ∀ (d k : Nat) (b c : Int) (a0 a3 a5 a8 a9 a12 a13 a14 a15 a16 a17 a21 a25 a26 a27 a28 : V),ps.length - k = d → k ≤ ps.length → zlP t at' K (ps.drop k) b = some c →
  exec T ziC ⟨[a0,vI root,.one (.ptr 0 0 0 0),a3,vIs order,a5,.one (.own 1 0 0 n),.one (.own 2 0 0 n),a8,a9,vI x,vI b,a12,a13,a14,a15,a16,a17,vIs tail,vI tail.length,vI kx,a21,vIs ps,vI ps.length,vI k,a25,a26,a27,a28],stT succ pred t at',0,0⟩ =
   some (.exit 4,⟨[vU,vI root,.one (.ptr 0 0 0 0),vU,vIs order,vU,.one (.own 1 0 0 n),.one (.own 2 0 0 n),vU,vU,vI x,vI c,vU,vU,vU,vU,vU,vU,vIs tail,vI tail.length,vI kx,vU,vU,vU,vU,vU,vU,vU,vU],stT succ pred t at',0,0⟩):=by
 intro d
 have tk1 : (t.map zj).take n = t.map zj:=yb (by simp; omega)
 have tk2 : (at'.map zj).take n = at'.map zj:=yb (by simp; omega)
 induction d with
 | zero =>
   intro k b c a0 a3 a5 a8 a9 a12 a13 a14 a15 a16 a17 a21 a25 a26 a27 a28 h1 h2 h
   have hk : k = ps.length:=by omega
   subst hk
   rw [ym] at h
   simp only [zlP,Option.some.injEq] at h
   subst h
   rw [xl ziC rfl,zkY]
   simp -implicitDefEqProofs only [go_sem,stT,obG,yo]
 | succ d ih =>
   intro k b c a0 a3 a5 a8 a9 a12 a13 a14 a15 a16 a17 a21 a25 a26 a27 a28 h1 h2 h
   have hk : k < ps.length:=by omega
   have hd : ps.drop k = ps[k] :: ps.drop (k + 1):=yf hk
   rw [hd,zlP] at h
   split at h
   ·rename_i hr
    obtain ⟨p1,p2,p3,p4⟩:=zjD hr
    have p2' : ps[k] < (n : Int):=by omega
    rw [xl ziC rfl,zkY]
    split at h
    ·rename_i c1
     have:=ih (k + 1) b c vU vU vU vU vU vU vU vU vU vU vU vU vU vU vU vU (by omega) (by omega) h
     simp -implicitDefEqProofs only [go_sem,stT,obG] at this
     simp -implicitDefEqProofs only [go_sem,stT,obG,ilt hk,zp hk,ri,p1,p2',zuE p3 p4,c1,za hk hps0,this]
    ·rename_i c1
     split at h
     ·rename_i c2
      subst c2
      have:=ih (k + 1) ps[k] c vU vU vU vU vU vU vU vU vU vU vU vU vU vU vU vU (by omega) (by omega) h
      simp -implicitDefEqProofs only [go_sem,stT,obG] at this
      simp -implicitDefEqProofs only [go_sem,stT,obG,ilt hk,zp hk,ri,p1,p2',zuE p3 p4,c1,za hk hps0,this]
     ·rename_i c2
      split at h
      ·cases h
      ·rename_i m hm
       have hc:=zzB t at' K K b ps[k] m hm
       have:=ih (k + 1) m c vU vU vU vU vU vU vU vU vU vU vU vU vU vU vU vU (by omega) (by omega) h
       simp -implicitDefEqProofs only [go_sem,stT,obG] at this hc
       simp -implicitDefEqProofs only [go_sem,stT,obG,ilt hk,zp hk,ri,p1,p2',zuE p3 p4,c1,c2,tk1,tk2,zdb,hc,za hk hps0,this]
   ·cases h
theorem zDm (K : Nat) (t : List Int) (ht : t.length = n) : ∀ (d k : Nat) (res : Option (Int × Int)) (a0 a3 a5 a8 a9 a10 a11 a12 a13 a14 a15 a16 a17 a21 a22 a23 a24 a25 a26 a27 a28 : V),tail.length - k = d → k ≤ tail.length → zro pred t at' K (tail.drop k) = some res →
  exec T ziJ ⟨[a0,vI root,.one (.ptr 0 0 0 0),a3,vIs order,a5,.one (.own 1 0 0 n),.one (.own 2 0 0 n),a8,a9,a10,a11,a12,a13,a14,a15,a16,a17,vIs tail,vI tail.length,vI k,a21,a22,a23,a24,a25,a26,a27,a28],stT succ pred t at',0,0⟩ =
   some (match res with
    | none => (.exit 2,⟨[vU,vI root,vU,vU,vU,vU,.one (.own 1 0 0 n),vU,vU,vU,vU,vU,vU,vU,vU,vU,vU,vU,vU,vU,vU,vU,vU,vU,vU,vU,vU,vU,vU],stT succ pred t at',0,0⟩)
    | some (x,b) => (.goto 0,⟨[vU,vI root,.one (.ptr 0 0 0 0),vU,vIs order,vU,.one (.own 1 0 0 n),.one (.own 2 0 0 n),vU,vU,vU,vU,vU,vU,vU,vU,vU,vU,vU,vU,vU,vU,vU,vU,vU,vU,vU,vU,vU],stT succ pred (t.set x.toNat b) at',0,0⟩)):=by
 intro d
 induction d with
 | zero =>
   intro k res a0 a3 a5 a8 a9 a10 a11 a12 a13 a14 a15 a16 a17 a21 a22 a23 a24 a25 a26 a27 a28 h1 h2 h
   have hk : k = tail.length:=by omega
   subst hk
   rw [ym] at h
   simp only [zro,Option.some.injEq] at h
   subst h
   rw [xl ziJ rfl,zlf]
   simp -implicitDefEqProofs only [go_sem,stT,obG,yo]
 | succ d ih =>
   intro k res a0 a3 a5 a8 a9 a10 a11 a12 a13 a14 a15 a16 a17 a21 a22 a23 a24 a25 a26 a27 a28 h1 h2 h
   have hk : k < tail.length:=by omega
   have hd : tail.drop k = tail[k] :: tail.drop (k + 1):=yf hk
   rw [hd,zro] at h
   split at h
   ·rename_i hr
    obtain ⟨p1,p2,p3,p4⟩:=zjD hr
    have p2' : tail[k] < (n : Int):=by omega
    have hpx : tail[k].toNat < pred.length:=by omega
    have hgp : pred.getD tail[k].toNat [] = pred[tail[k].toNat]:=by simp [hpx]
    rw [hgp] at h
    split at h
    ·cases h
    ·rename_i b hb
     have hl2:=fun a0 a3 a5 a8 a9 a12 a13 a14 a15 a16 a17 a21 a25 a26 a27 a28 => zDE succ pred hpl hps n hn hn64 root order tail at' hat htl K t ht tail[k] k pred[tail[k].toNat] (hps _ (yr hpx)) _ 0 (-2) b a0 a3 a5 a8 a9 a12 a13 a14 a15 a16 a17 a21 a25 a26 a27 a28 rfl (yv _) hb
     rw [xl ziJ rfl,zlf]
     simp only [yk] at hl2
     split at h
     ·rename_i c1
      have:=ih (k + 1) res vU vU vU vU vU vU vU vU vU vU vU vU vU vU vU vU vU vU vU vU vU (by omega) (by omega) h
      simp -implicitDefEqProofs only [go_sem,stT,obG] at this hl2
      simp -implicitDefEqProofs only [go_sem,stT,obG,ilt hk,zp hk,zp hpx,ri,rl,p1,p2',hl2,zuE p3 p4,c1,za hk htl,this]
     ·rename_i c1
      injection h with h
      subst h
      have hset : (t.map zj).set tail[k].toNat [C.f (.lit (.int .i64 b))] = (t.set tail[k].toNat b).map zj:=by rw [yl]; rfl
      simp -implicitDefEqProofs only [go_sem,stT,obG] at hl2
      simp -implicitDefEqProofs only [go_sem,stT,obG,ilt hk,zp hk,zp hpx,ri,rl,p1,p2',hl2,zuE p3 p4,c1,hset]
   ·cases h
end
end AC
namespace AC
open Go Go.A Go.A.Lex
def zlK : Go.A.Code:=zae.p2.p2.p2.p2.p2.p2.p2
theorem zzZ : zlh = .seq .skip zlK:=rfl
section
variable (succ pred : List (List Int)) (hpl : pred.length = succ.length) (hps : ∀ l ∈ pred,l.length ≤ 4294967296) (n : Nat) (hn : n = succ.length) (hn64 : n ≤ 64) (root : Nat) (hroot : root < n) (tail : List Int) (htl : tail.length ≤ 4294967295)
include hpl hps hn hn64
theorem zCO (order : List Int) (hol : order.length ≤ 4294967296) (ho : ∀ x ∈ order,0 ≤ x ∧ x < (n : Int)) (t : List Int) : ∀ (d k : Nat) (at' : List Int) (a0 a3 a5 a8 a9 a10 a11 a12 a13 a17 a18 a19 a20 a21 a22 a23 a24 a25 a26 a27 a28 : V),at'.length = n → order.length - k = d → k ≤ order.length →
  exec T ziW ⟨[a0,vI root,.one (.ptr 0 0 0 0),a3,vIs order,a5,.one (.own 1 0 0 n),.one (.own 2 0 0 n),a8,a9,a10,a11,a12,a13,vIs order,vI order.length,vI k,a17,a18,a19,a20,a21,a22,a23,a24,a25,a26,a27,a28],stT succ pred t at',0,0⟩ =
   some (.exit 0,⟨[vU,vI root,.one (.ptr 0 0 0 0),vU,vIs order,vU,.one (.own 1 0 0 n),.one (.own 2 0 0 n),vU,vU,vU,vU,vU,vU,vU,vU,vU,vU,vU,vU,vU,vU,vU,vU,vU,vU,vU,vU,vU],stT succ pred t (zjX k (order.drop k) at'),0,0⟩):=by
 intro d
 induction d with
 | zero =>
   intro k at' a0 a3 a5 a8 a9 a10 a11 a12 a13 a17 a18 a19 a20 a21 a22 a23 a24 a25 a26 a27 a28 ha h1 h2
   have hk : k = order.length:=by omega
   subst hk
   rw [xl ziW rfl,zkW]
   simp -implicitDefEqProofs only [go_sem,stT,obG,yo,ym,zjX]
 | succ d ih =>
   intro k at' a0 a3 a5 a8 a9 a10 a11 a12 a13 a17 a18 a19 a20 a21 a22 a23 a24 a25 a26 a27 a28 ha h1 h2
   have hk : k < order.length:=by omega
   have hd : order.drop k = order[k] :: order.drop (k + 1):=yf hk
   obtain ⟨p1,p2⟩:=ho _ (yr hk)
   have hc:=zuE (t:=at') (a:=order[k]) (by omega) (by omega)
   have hset : (at'.map zj).set order[k].toNat [C.f (.lit (.int .i64 (k : Int)))] = (at'.set order[k].toNat (k : Int)).map zj:=by rw [yl]; rfl
   have:=ih (k + 1) (at'.set order[k].toNat (k : Int)) vU vU vU vU vU vU vU vU vU vU vU vU vU vU vU vU vU vU vU vU vU (by simpa using ha) (by omega) (by omega)
   rw [xl ziW rfl,zkW,hd,zjX]
   simp -implicitDefEqProofs only [go_sem,stT,obG] at this
   simp -implicitDefEqProofs only [go_sem,stT,obG,ilt hk,zp hk,ri,p1,p2,hc,hset,za hk hol,this]
include hroot htl
theorem zqQ (K : Nat) (at' : List Int) (hat : at'.length = n) (t : List Int) (ht : t.length = n) (o0 : Int) (res : Option (Int × Int)) (h : zro pred t at' K tail = some res)
  (a0 a3 a5 a8 a9 a10 a11 a12 a13 a14 a15 a16 a17 a18 a19 a20 a21 a22 a23 a24 a25 a26 a27 a28 : V) :
  exec T zlK ⟨[a0,vI root,.one (.ptr 0 0 0 0),a3,vIs (o0 :: tail),a5,.one (.own 1 0 0 n),.one (.own 2 0 0 n),a8,a9,a10,a11,a12,a13,a14,a15,a16,a17,a18,a19,a20,a21,a22,a23,a24,a25,a26,a27,a28],stT succ pred t at',0,0⟩ =
   some (match res with
    | none => (.ret,⟨[vU,vU,vU,.one (.own 1 0 0 n),vU,vU,vU,vU,vU,vU,vU,vU,vU,vU,vU,vU,vU,vU,vU,vU,vU,vU,vU,vU,vU,vU,vU,vU,vU],stT succ pred (t.set root (-1)) at',0,0⟩)
    | some (x,b) => (.goto 0,⟨[vU,vI root,.one (.ptr 0 0 0 0),vU,vIs (o0 :: tail),vU,.one (.own 1 0 0 n),.one (.own 2 0 0 n),vU,vU,vU,vU,vU,vU,vU,vU,vU,vU,vU,vU,vU,vU,vU,vU,vU,vU,vU,vU,vU],stT succ pred (t.set x.toNat b) at',0,0⟩)):=by
 have h3:=fun a0 a3 a5 a8 a9 a10 a11 a12 a13 a14 a15 a16 a17 a21 a22 a23 a24 a25 a26 a27 a28 => zDm succ pred hpl hps n hn hn64 root (o0 :: tail) tail at' hat (by omega) K t ht tail.length 0 res a0 a3 a5 a8 a9 a10 a11 a12 a13 a14 a15 a16 a17 a21 a22 a23 a24 a25 a26 a27 a28 (by omega) (by omega) h
 simp only [yk] at h3
 have hri : (ri o0).length = 1:=rfl
 have e1 : (ri o0 :: tail.map ri).take (tail.length + 1) = ri o0 :: tail.map ri:=yb (by simp)
 have e2 : (1 ≤ tail.length + 1) = True:=by simp
 have hrt : ((root : Int) < (n : Int)) = True:=by simp; omega
 have hset : (t.map zj).set root [C.f (.lit (.int .i64 (-1)))] = (t.set root (-1)).map zj:=by rw [yl]; rfl
 have hc:=zuE (t:=t) (a:=(root : Int)) (by omega) (by omega)
 rw [yh] at hc
 cases res with
 | none =>
   simp -implicitDefEqProofs only [go_sem,stT,obG] at h3
   simp -implicitDefEqProofs only [go_sem,stT,obG,zlK,zae,Code.p2,ys,hri,zuX,e1,e2,h3,hrt,yj,yh,hc,hset]
 | some xb =>
   obtain ⟨x,b⟩:=xb
   simp -implicitDefEqProofs only [go_sem,stT,obG] at h3
   simp -implicitDefEqProofs only [go_sem,stT,obG,zlK,zae,Code.p2,ys,hri,zuX,e1,e2,h3]
theorem zBv (K : Nat) (at' : List Int) (hat : at'.length = n) (o0 : Int) : ∀ (r : Nat) (t t' : List Int) (a0 a3 a5 a8 a9 a10 a11 a12 a13 a14 a15 a16 a17 a18 a19 a20 a21 a22 a23 a24 a25 a26 a27 a28 : V),t.length = n → zg6 pred at' K tail r t = some t' →
  exec T (.sc zae zlh) ⟨[a0,vI root,.one (.ptr 0 0 0 0),a3,vIs (o0 :: tail),a5,.one (.own 1 0 0 n),.one (.own 2 0 0 n),a8,a9,a10,a11,a12,a13,a14,a15,a16,a17,a18,a19,a20,a21,a22,a23,a24,a25,a26,a27,a28],stT succ pred t at',0,0⟩ =
   some (.ret,⟨[vU,vU,vU,.one (.own 1 0 0 n),vU,vU,vU,vU,vU,vU,vU,vU,vU,vU,vU,vU,vU,vU,vU,vU,vU,vU,vU,vU,vU,vU,vU,vU,vU],stT succ pred (t'.set root (-1)) at',0,0⟩):=by
 intro r
 induction r with
 | zero => intro t t' _ _ _ _ _ _ _ _ _ _ _ _ _ _ _ _ _ _ _ _ _ _ _ _ _ h; simp [zg6] at h
 | succ r ih =>
   intro t t' a0 a3 a5 a8 a9 a10 a11 a12 a13 a14 a15 a16 a17 a18 a19 a20 a21 a22 a23 a24 a25 a26 a27 a28 ht h
   rw [zg6] at h
   rw [zgP,zzZ,zgt,zg9]
   simp only [yg,zso]
   split at h
   ·cases h
   ·rename_i hp
    injection h with h
    subst h
    rw [zqQ succ pred hpl hps n hn hn64 root hroot tail htl K at' hat t ht o0 none hp]
    simp only [yg,scK]
   ·rename_i x b hp
    rw [zqQ succ pred hpl hps n hn hn64 root hroot tail htl K at' hat t ht o0 (some (x,b)) hp]
    simp only [yg,scK,zp3]
    exact ih _ _ _ _ _ _ _ _ _ _ _ _ _ _ _ _ _ _ _ _ _ _ _ _ _ _ (by simpa using ht) h
end
def zD7 : Go.A.Code:=zae.p1
def zD4 : Go.A.Code:=zae.p2.p1
def zEH : Go.A.Code:=zae.p2.p2.p1
def zEb : Go.A.Code:=zae.p2.p2.p2.p1
def zEr : Go.A.Code:=zae.p2.p2.p2.p2.p1
def zEI : Go.A.Code:=zae.p2.p2.p2.p2.p2.p1
theorem zFM : zae = .seq zD7 (.seq zD4 (.seq zEH (.seq zEb (.seq zEr (.seq zEI (.seq (.label 0) zlK)))))):=rfl
theorem zzY (succ pred : List (List Int)) (hs : zjo succ) (hm : zAr succ pred = true) (root : Nat) (hr : root < succ.length) (k : Nat) (hk : k ≤ 4294967295) (o : List Int) (ho : dfs succ k (zsn root) = some o)
  (o0 : Int) (tail : List Int) (hrev : o.reverse = o0 :: tail) (hor : ∀ x ∈ o,0 ≤ x ∧ x < (succ.length : Int)) (hol : o.length ≤ 4294967295) (K r : Nat) (t : List Int) (ht : zg6 pred (at0 succ.length o.reverse) K tail r (zkw succ.length root) = some t) :
  call T 195 [.agg [.f (.sl (succ.map rl)),.f (.sl (pred.map rl))],vI root] [] = some (vIs (t.set root (-1)),[]):=by
 rw [ze (fn:=zmV) rfl]
 have hmk : zbk succ = true ∧ zM succ = pred:=by simpa [zAr] using hm
 obtain ⟨q1,q2,q3⟩:=zf5 hmk.1
 have hpl : pred.length = succ.length:=by rw [← hmk.2,zb0]
 have hps : ∀ l ∈ pred,l.length ≤ 4294967296:=by rw [← hmk.2]; exact zjm succ hs (zgG hmk.1)
 have hO:=zwE succ pred hs hm root hr k hk o ho
 have hR:=zuY succ.length q1 q2
 have htl : tail.length ≤ 4294967295:=by
  have : o.reverse.length = tail.length + 1:=by rw [hrev]; rfl
  rw [List.length_reverse] at this
  omega
 have hf:=fun a0 a3 a5 a8 a9 a10 a11 a12 a13 a17 a18 a19 a20 a21 a22 a23 a24 a25 a26 a27 a28 => zCO succ pred hpl hps succ.length rfl q2 root (o0 :: tail) (by simp only [yi]; omega) (fun x hx => hor x (List.mem_reverse.1 (by rw [hrev]; exact hx))) (ya succ.length (-2)) (o0 :: tail).length 0 (ya succ.length 0) a0 a3 a5 a8 a9 a10 a11 a12 a13 a17 a18 a19 a20 a21 a22 a23 a24 a25 a26 a27 a28 (by simp) rfl (yv _)
 simp only [List.drop_zero,yk] at hf
 rw [hrev] at hO ht
 have hrt : ((root : Int) < (succ.length : Int)) = True:=by simp; omega
 have hset : ((ya succ.length (-2 : Int)).map zj).set root [C.f (.lit (.int .i64 (root : Int)))] = (zkw succ.length root).map zj:=by rw [zkw,yl]; rfl
 have hcell : ((ya succ.length (-2 : Int)).map zj)[root]? = some [.f (.lit (.int .i64 (-2)))]:=by simp [hr,zj]
 have hat : (at0 succ.length (o0 :: tail)).length = succ.length:=by rw [at0,ziU]; simp
 have hlim : (succ.length : Int) ≤ (LIM : Int):=by unfold LIM; omega
 have hz : ya succ.length [C.f (.lit (.int .i64 0))] = (ya succ.length (0 : Int)).map zj:=by rw [yp]; rfl
 have hnz : ¬ ((tail.length + 1 : Nat) : Int) = 0:=by omega
 have e1 : exec T (.scope zae) ⟨[.agg [.f (.sl (succ.map rl)),.f (.sl (pred.map rl))],vI root,.one (.ptr 0 0 0 0),vL [],vU,vU,vU,vU,vU,vU,vU,vU,vU,vU,vU,vU,vU,vU,vU,vU,vU,vU,vU,vU,vU,vU,vU,vU,vU],[obG succ pred],0,0⟩ = some (.ret,⟨[vU,vU,vU,.one (.own 1 0 0 succ.length),vU,vU,vU,vU,vU,vU,vU,vU,vU,vU,vU,vU,vU,vU,vU,vU,vU,vU,vU,vU,vU,vU,vU,vU,vU],stT succ pred (t.set root (-1)) (at0 succ.length (o0 :: tail)),0,0⟩):=by
  have h:=fun a0 a3 a5 a8 a9 a10 a11 a12 a13 a14 a15 a16 a17 a18 a19 a20 a21 a22 a23 a24 a25 a26 a27 a28 => zBv succ pred hpl hps succ.length rfl q2 root hr tail htl K (at0 succ.length (o0 :: tail)) hat o0 r (zkw succ.length root) t a0 a3 a5 a8 a9 a10 a11 a12 a13 a14 a15 a16 a17 a18 a19 a20 a21 a22 a23 a24 a25 a26 a27 a28 (by simp [zkw]) ht
  rw [← h vU vU vU vU vU vU vU vU vU vU vU vU vU vU vU vU vU vU vU vU vU vU vU vU]
  rw [zmA,zgP,zgP]
  congr 1
  rw [zzZ,zgt,zg9]
  simp only [yg,zso]
  rw [zFM]
  have hdt : zEb = .regd [] [⟨.loc,.bsl .fz 1 [[.f (.lit (.int .i64 0))]] [(0,.c (vI (-2)))],none⟩,⟨.loc,.mv (.s 5),none⟩,⟨.loc,.call .ck (.c (.one (.fn 230 [] []))) [.l 1,.l 0],none⟩,⟨.loc,.mv (.s 5),none⟩,⟨.loc,.mks [.f (.lit (.int .i64 0))] none (.l 0),none⟩,⟨.slot 6,.mv (.l 2),none⟩,⟨.slot 7,.mv (.l 1),none⟩]:=rfl
  have hlr : (yw zj (ya succ.length (-2 : Int))).map (C.shifts 1) = yw zj (ya succ.length (-2 : Int)):=by
   rw [List.map_map]
   rfl
  simp -implicitDefEqProofs only [go_sem,obG,stT] at hO hR hf
  simp -implicitDefEqProofs only [go_sem,obG,stT,zD7,zD4,zEH,hdt,zEr,zEI,zae,Code.p1,Code.p2,hO,hR,hnz,hlim,yj,yh,hz,hlr,hf,hrt,hcell,hset]
  rfl
 have htk : ((t.set root (-1)).map zj).take succ.length = (t.set root (-1)).map zj:=yb (by have:=zkP ht; simp [zkw] at this; simp; omega)
 simp -implicitDefEqProofs only [go_sem,obG,stT] at e1
 simp -implicitDefEqProofs only [go_sem,zmV,e1,htk,zdb]
end AC
namespace AC
open Go Go.A Go.A.Lex
open Dm
theorem ztS {α : Type} (k k' : Int) (v : α) : ∀ D : List (Int × α),getM k (zlq k' v D) = if k' = k then some v else getM k D
 | [] => by by_cases c : k' = k <;> simp [zlq,getM,c]
 | e :: D => by
   rw [zlq]
   by_cases c : e.1 = k'
   ·rw [if_pos c,getM,getM]
    by_cases d : k' = k
    ·rw [if_pos d,if_pos d]
    ·rw [if_neg d,if_neg d,if_neg (fun h => d (c.symm.trans h))]
   ·rw [if_neg c,getM,getM,ztS k k' v D]
    by_cases d : e.1 = k
    ·rw [if_pos d,if_pos d,if_neg (fun h => c (d.trans h.symm))]
    ·rw [if_neg d,if_neg d]
def toP (u : Use) : PDef:=⟨u.block,u.at',u.shape⟩
def lk (ds : List Use) (v : Int) : Option PDef:=(ds.find? fun u => decide (u.v = v)).map toP
def Rep (D : zkq) (ds : List Use) : Prop:=∀ v,getM v D = lk ds v
theorem zD5 (ds : List Use) (u : Use) (v : Int) : lk (ds ++ [u]) v = if (lk ds v).isSome = true then lk ds v else if u.v = v then some (toP u) else none:=by
 unfold lk
 rw [List.find?_append]
 cases h : ds.find? (fun u => decide (u.v = v)) with
 | some x => simp
 | none =>
   by_cases c : u.v = v
   ·simp [c]
   ·simp [c]
theorem zuv {D : zkq} {ds : List Use} (R : Rep D ds) (u : Use) (h : (lk ds u.v).isNone = true) : Rep (zlq u.v (toP u) D) (ds ++ [u]):=by
 intro v
 rw [ztS,zD5,R v]
 by_cases c : u.v = v
 ·subst c
  have : (lk ds u.v).isSome = false:=by
   cases e : lk ds u.v
   ·rfl
   ·rw [e] at h; cases h
  rw [if_pos rfl,this,if_neg (by simp),if_pos rfl]
 ·rw [if_neg c,if_neg c]
  cases e : lk ds v <;> simp
def zgl : List Use → List Use → Bool
 | _,[] => true
 | pre,u :: r => (value u.v && (lk pre u.v).isNone) && zgl (pre ++ [u]) r
theorem zlB : ∀ (a b pre : List Use),zgl pre (a ++ b) = (zgl pre a && zgl (pre ++ a) b)
 | [],b,pre => by rw [yn,List.append_nil,zgl,yu]
 | u :: a,b,pre => by
   rw [yt,zgl,zgl,zlB a b]
   simp only [Bool.and_assoc,yc,ye]
theorem zmP {ds : List Use} {v : Int} : (lk ds v).isNone = true ↔ ∀ u ∈ ds,u.v ≠ v:=by
 unfold lk
 rw [Option.isNone_map,Option.isNone_iff_eq_none,List.find?_eq_none]
 simp
theorem zu7 (v : Int) : ∀ (pre : List Use) (u : Use) (r : List Use) (k : Nat),u.v = v → (zh v k (pre ++ u :: r) = ((k + pre.length : Nat) : Int) ↔ ∀ x ∈ pre,x.v ≠ v)
 | [],u,r,k,h => by simp [zh,h]
 | x :: pre,u,r,k,h => by
   rw [yt,zh]
   by_cases c : x.v = v
   ·rw [if_pos c]
    constructor
    ·intro e
     simp only [yi] at e
     omega
    ·intro e
     exact absurd c (e x List.mem_cons_self)
   ·rw [if_neg c]
    have ih:=zu7 v pre u r (k + 1) h
    rw [show k + 1 + pre.length = k + (x :: pre).length by simp only [yi]; omega] at ih
    rw [ih]
    constructor
    ·intro e y hy
     rcases List.mem_cons.1 hy with rfl | hy
     ·exact c
     ·exact e y hy
    ·exact fun e y hy => e y (List.mem_cons_of_mem _ hy)
theorem zrB (defs : List Use) : ∀ (r pre : List Use),defs = pre ++ r → zft defs pre.length r = zgl pre r
 | [],_,_ => rfl
 | u :: r,pre,h => by
   have ih:=zrB defs r (pre ++ [u]) (by rw [h]; simp)
   rw [List.length_append,List.length_singleton] at ih
   rw [zft,zgl,ih]
   congr 2
   have h1:=zu7 u.v pre u r 0 rfl
   rw [← h,Nat.zero_add] at h1
   rw [Bool.eq_iff_iff,decide_eq_true_eq,h1,zmP]
theorem zl6 {v : Int} : value v = true ↔ ¬ (v < 1 ∨ 1023 < v):=by
 unfold value
 rw [yd,decide_eq_true_eq,decide_eq_true_eq]
 omega
theorem zqK : ∀ (l : List Int) (k : Nat) (D : zkq) (pre : List Use),Rep D pre → (∀ u ∈ pre,u.v ≤ (k : Int)) → k + l.length ≤ 16 → Rep (zef k D l) (pre ++ zaP k l) ∧ zgl pre (zaP k l) = true
 | [],k,D,pre,R,_,_ => by simpa [zef,zaP,zgl] using R
 | b :: l,k,D,pre,R,hp,hl => by
   have hn : (lk pre ((k : Int) + 1)).isNone = true:=zmP.2 fun u hu => by have:=hp u hu; omega
   simp only [yi] at hl
   obtain ⟨h1,h2⟩:=zqK l (k + 1) (zlq ((k : Int) + 1) ⟨-1,0,(b,1)⟩ D) (pre ++ [(⟨(k : Int) + 1,(b,1),-1,0⟩ : Use)]) (zuv R (⟨(k : Int) + 1,(b,1),-1,0⟩ : Use) hn) (fun u hu => by
    rcases List.mem_append.1 hu with hu | hu
    ·have:=hp u hu; omega
    ·rw [List.mem_singleton.1 hu]; show (k : Int) + 1 ≤ _; omega) (by omega)
   rw [zef,zaP,zgl,h2]
   rw [yc,ye] at h1
   refine ⟨h1,?_⟩
   have hv : value ((k : Int) + 1) = true:=zl6.2 (by omega)
   simp only [hv,hn,Bool.and_true]
theorem zvw (i : Int) : ∀ (l : List PPhi) (D : zkq) (pre : List Use),Rep D pre → ((zg5 i D l).2.isNone = zgl pre (zcY i l)) ∧ (zgl pre (zcY i l) = true → Rep (zg5 i D l).1 (pre ++ zcY i l))
 | [],D,pre,R => ⟨rfl,fun _ => by simpa [zg5,zcY] using R⟩
 | p :: l,D,pre,R => by
   have e : zcY i (p :: l) = ⟨p.dst,(p.bits,1),i,-1⟩ :: zcY i l:=rfl
   rw [zg5,e,zgl]
   by_cases c : p.dst < 1 ∨ 1023 < p.dst
   ·have hv : value p.dst = false:=by
     cases h : value p.dst
     ·rfl
     ·exact absurd c (zl6.1 h)
    rw [if_pos c,hv]
    exact ⟨rfl,fun h => by simp at h⟩
   ·have hv : value p.dst = true:=zl6.2 c
    rw [if_neg c,hv,R p.dst]
    cases hn : (lk pre p.dst).isNone
    ·rw [if_neg (by simp)]
     exact ⟨rfl,fun h => by simp at h⟩
    ·rw [if_pos rfl]
     have R' : Rep (zlq p.dst ⟨i,-1,(p.bits,1)⟩ D) (pre ++ [(⟨p.dst,(p.bits,1),i,-1⟩ : Use)]):=zuv R (⟨p.dst,(p.bits,1),i,-1⟩ : Use) hn
     obtain ⟨h1,h2⟩:=zvw i l _ _ R'
     rw [yc,ye] at h2
     exact ⟨by simpa using h1,fun h => h2 (by simpa using h)⟩
theorem zuD {o : POp} (h : 0 < (zab o).1) : value o.dst = true:=by
 unfold zab at h
 split at h
 ·simp at h
 ·rename_i c
  have hm : zgq o = true:=by
   cases e : zgq o
   ·exact absurd (.inl e) c
   ·rfl
  have hs : zfw o.kind = false:=by
   cases e : zfw o.kind
   ·rfl
   ·exact absurd (.inr e) c
  unfold zgq at hm
  simp only [yd] at hm
  have:=hm.2.2.1
  rw [hs] at this
  simpa using this
theorem zt5 (i : Int) : ∀ (l : List POp) (k : Nat) (D : zkq) (pre : List Use),Rep D pre → ((zi5 i k D l).2.isNone = zgl pre (zcW i k l)) ∧ (zgl pre (zcW i k l) = true → Rep (zi5 i k D l).1 (pre ++ zcW i k l))
 | [],k,D,pre,R => ⟨rfl,fun _ => by simpa [zi5,zcW] using R⟩
 | o :: l,k,D,pre,R => by
   rw [zi5,zcW]
   by_cases c : (zab o).1 ≤ 0
   ·rw [if_pos c,if_neg (show ¬ 0 < (zab o).1 by omega)]
    exact zt5 i l (k + 1) D pre R
   ·rw [if_neg c,if_pos (show 0 < (zab o).1 by omega),zgl,zuD (o:=o) (by omega),R o.dst]
    cases hn : (lk pre o.dst).isNone
    ·rw [if_neg (by simp)]
     exact ⟨rfl,fun h => by simp at h⟩
    ·rw [if_pos rfl]
     have R' : Rep (zlq o.dst ⟨i,(k : Int),zab o⟩ D) (pre ++ [(⟨o.dst,zab o,i,(k : Int)⟩ : Use)]):=zuv R (⟨o.dst,zab o,i,(k : Int)⟩ : Use) hn
     obtain ⟨h1,h2⟩:=zt5 i l (k + 1) _ _ R'
     rw [yc,ye] at h2
     exact ⟨by simpa using h1,fun h => h2 (by simpa using h)⟩
theorem zqW : ∀ (l : List PBlock) (k : Nat) (D : zkq) (pre : List Use),Rep D pre → ((zd7 k D l).2.isNone = zgl pre (zV k l)) ∧ (zgl pre (zV k l) = true → Rep (zd7 k D l).1 (pre ++ zV k l))
 | [],k,D,pre,R => ⟨rfl,fun _ => by simpa [zd7,zV] using R⟩
 | b :: l,k,D,pre,R => by
   obtain ⟨p1,p2⟩:=zvw (k : Int) b.phis D pre R
   rw [zd7,zV,zlB,zlB]
   cases hp : zg5 (k : Int) D b.phis with
   | mk D1 q =>
     rw [hp] at p1 p2
     cases q with
     | some x =>
       rw [← p1]
       exact ⟨rfl,fun h => by simp at h⟩
     | none =>
       rw [← p1]
       have R1:=p2 (by rw [← p1]; rfl)
       simp only at R1
       obtain ⟨o1,o2⟩:=zt5 (k : Int) b.ops 0 D1 _ R1
       simp only
       cases ho : zi5 (k : Int) 0 D1 b.ops with
       | mk D2 q2 =>
         rw [ho] at o1 o2
         cases q2 with
         | some x =>
           rw [← o1]
           exact ⟨rfl,fun h => by simp at h⟩
         | none =>
           rw [← o1]
           have R2:=o2 (by rw [← o1]; rfl)
           obtain ⟨b1,b2⟩:=zqW l (k + 1) D2 _ R2
           rw [yc] at b1 b2
           simp only [yc] at b1 b2
           refine ⟨by simpa using b1,fun h => ?_⟩
           have:=b2 (by simpa using h)
           simpa [yc] using this
theorem zAP {f : PFunc} (h : f.params.length ≤ 16) : ((zrv f).2.isNone = zft (zL f) 0 (zL f)) ∧ (zft (zL f) 0 (zL f) = true → Rep (zrv f).1 (zL f)):=by
 have e:=zrB (zL f) (zL f) [] (by simp)
 rw [List.length_nil] at e
 have R0 : Rep [] []:=fun v => rfl
 obtain ⟨h1,h2⟩:=zqK f.params 0 [] [] R0 (by simp) (by omega)
 rw [yn] at h1
 obtain ⟨b1,b2⟩:=zqW f.blocks 0 _ _ h1
 have ea : zgl [] (zL f) = zgl (zaP 0 f.params) (zV 0 f.blocks):=by
  unfold zL
  rw [zlB,h2,yu,yn]
 rw [e,ea]
 exact ⟨b1,b2⟩
end AC
