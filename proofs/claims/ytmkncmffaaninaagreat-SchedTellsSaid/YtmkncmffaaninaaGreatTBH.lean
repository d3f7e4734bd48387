/- A part of the proof of SchedTells. Conditions: none. -/
import Derived.Test.YtmkncmffaaninaaGreatTBG
import Derived.Test.YtmkncmffaaninaaGreatTBF
set_option linter.all false
open List renaming replicate → ya,take_of_length_le → yb,append_assoc → yc,singleton_append → ye,drop_eq_getElem_cons → yf,length_cons → yi,map_set → yl,drop_length → ym,nil_append → yn,map_replicate → yp,all_eq_true → yq,getElem_mem → yr,cons_append → yt,map → yw
open Bool renaming and_eq_true → yd,true_and → yu
open Option renaming bind_some → yg
open Int renaming toNat_natCast → yh,natCast_nonneg → yj,natCast_zero → yk,lt_irrefl → yo,reduceToNat → ys
open Nat renaming zero_le → yv
namespace AC
open Go Go.A Go.A.Lex
@[go_sem] theorem zrt (succ pred : List (List Int)) (a : zkN succ) : call T 148 [.agg [.f (.sl (succ.map rl)),.f (.sl (pred.map rl))]] [] = some (vB (zCf succ pred),[]):=by
  rw [ze (fn:=zjs) rfl];have hm:=zkZ succ a;cases e : zbA succ
  ·simp -implicitDefEqProofs only [go_sem,zkJ,e] at hm
   simp -implicitDefEqProofs only [go_sem,zjs,hm,zCf,e]
  ·have b:=zmH (zR succ) pred [.cells 0 2 [[.f (.sl (succ.map rl)),.f (.sl (pred.map rl))]],.cells 0 2 [[.f (.sl (succ.map rl)),.f (.sl ((zR succ).map rl))]]] (by rw [zcf]; exact a.1) (zkx succ a (zhB e))
   simp -implicitDefEqProofs only [go_sem,zkJ,e] at hm b;simp -implicitDefEqProofs only [go_sem,zjs,hm,b,zCf,e]
theorem zkv : zrn.length = 64:=rfl
theorem zo2 : zpn.length = 64:=rfl
def zHz : Go.A.Code:=zt.p1
def zHY : Go.A.Code:=zt.p2.p1
def zHt : Go.A.Code:=zt.p2.p2.p1
def zHM : Go.A.Code:=zt.p2.p2.p2.p1
def zHK : Go.A.Code:=zt.p2.p2.p2.p2.p1
def zHn : Go.A.Code:=zt.p2.p2.p2.p2.p2.p1
theorem zHS : zt = .seq zHz (.seq zHY (.seq zHt (.seq zHM (.seq zHK (.seq zHn (.seq (.label 0) zks)))))):=rfl
theorem zFx (succ pred : List (List Int)) (b : zkN succ) (hm : zCf succ pred = true) (root : Nat) (d : root < succ.length) : exec T zHz ⟨[.agg [.f (.sl (succ.map rl)),.f (.sl (pred.map rl))],vI root,.one (.ptr 0 0 0 0),vL [],vU,vU,vU,vU,vU,vU,vU,vU,vU,vU],[obG succ pred],0,0⟩ =
  some (.normal,⟨[.agg [.f (.sl (succ.map rl)),.f (.sl (pred.map rl))],vI root,.one (.ptr 0 0 0 0),vL [],vU,vU,vU,vU,vU,vU,vB false,vU,vU,vU],[obG succ pred],0,0⟩):=by
 have h:=zrt succ pred b;rw [hm] at h;have c : ¬ (root : Int) < 0:=by omega
 have a : ¬ (succ.length : Int) ≤ (root : Int):=by omega
 simp -implicitDefEqProofs only [go_sem] at h;simp -implicitDefEqProofs only [go_sem,zHz,zt,Code.p1,obG,h,c,a]
theorem zDD (succ pred : List (List Int)) (root : Nat) (d : root < 64) (c : Go.A.Code) (a0 a3 b : V) : exec T (.seq zHY (.seq zHt (.seq zHM (.seq zHK (.seq zHn c))))) ⟨[a0,vI root,.one (.ptr 0 0 0 0),a3,vU,vU,vU,vU,vU,vU,b,vU,vU,vU],[obG succ pred],0,0⟩ =
  exec T c ⟨[a0,vI root,.one (.ptr 0 0 0 0),a3,.one (.ptr 1 0 0 0),.one (.ptr 2 0 0 0),.one (.own 3 0 0 0),.one (.own 4 0 0 1),vU,vU,b,vU,vU,vU],stO succ pred (zrn.set root true) zpn 0 [] 0 [(root : Int)],0,0⟩:=by
 have i : ((root : Int) < 64) = True:=by simp; omega
 have a:=zvA (e:=zrn.map cB) (k:=root) (.f (.lit (.bool true))) (by rw [List.length_map,zkv]; exact d);have g : (zrn.map cB).set root (C.f (.lit (.bool true))) = (zrn.set root true).map cB:=by rw [yl]; rfl
 rw [g] at a;have hle:=zBv (show root < 64 by omega);have j : zHY = .reg [w 4 (.al (zrn.map cB) [])]:=rfl;have h : zHt = .reg [w 5 (.al (zpn.map cN) [])]:=rfl;rw [j,h];simp -implicitDefEqProofs only [go_sem,zHM,zHK,zHn,zt,Code.p1,Code.p2,obG,stO,zkv,zo2,i,yj,yh,Nat.mul_one,a,hle,zn]
@[go_sem] theorem zya (succ pred : List (List Int)) (m : zkN succ) (hm : zCf succ pred = true) (root : Nat) (t : root < succ.length) (k : Nat) (w : k ≤ 4294967295) (o : List Int) (n : dfs succ k (ztS root) = some o) :
   call T 100 [.agg [.f (.sl (succ.map rl)),.f (.sl (pred.map rl))],vI root] [] = some (vIs o.reverse,[]):=by
  rw [ze (fn:=zjP) rfl];have d : zbA succ = true:=by simp only [zCf,yd] at hm; exact hm.1
  obtain ⟨z,q,u⟩:=zgY d;have e : ∀ l ∈ succ,∀ y ∈ l,0 ≤ y ∧ y < (succ.length : Int):=fun l p y r => by have:=znV _ _ _ (u l p) y r; omega
  have hd : DInv succ (ztS root):=⟨by simp [ztS,zkv],zo2,fun X v => by
   have : zpn.getD X 0 = 0:=by
    have i : X < 64:=by omega
    have h : zpn[X]? = some 0:=by
     unfold zpn;rw [List.getElem?_replicate,if_pos i]
    rw [List.getD_eq_getElem?_getD,h];rfl
   simp only [ztS]
   omega,fun x s => by simp [ztS] at s; omega⟩
  obtain ⟨a,next',b,j,c,h⟩:=zFk succ pred q m.2 e k (ztS root) [] 0 0 o (.agg [.f (.sl (succ.map rl)),.f (.sl (pred.map rl))]) (vI root) (vL []) vU vU (vB false) vU vU vU hd (by simp [ztS]; omega) (by simp [ztS]; omega) n
  have e1 : exec T (.scope zt) ⟨[.agg [.f (.sl (succ.map rl)),.f (.sl (pred.map rl))],vI root,.one (.ptr 0 0 0 0),vL [],vU,vU,vU,vU,vU,vU,vU,vU,vU,vU],[obG succ pred],0,0⟩ = some (.ret,⟨[vU,vU,vU,.one (.own 3 b 0 o.length),vU,vU,vU,vU,vU,vU,vU,vU,vU,vU],stO succ pred a next' b o.reverse j c,0,0⟩):=by
   rw [← h,ziZ,zfl,zfl]
   congr 1
   rw [zrG,zfP,zfC];simp only [yg,zrr];rw [zHS,zfP,zFx succ pred m hm root t];simp only [yg,zrr];rw [zDD succ pred root (by omega),zfP,zss];rfl
  have g : (o.reverse.map zn).take o.length = o.reverse.map zn:=yb (by simp);simp -implicitDefEqProofs only [go_sem,obG,stO] at e1;simp -implicitDefEqProofs only [go_sem,zjP,e1,g,zdA]
def zHo : List C → Bool
 | [.f (.lit (.int .i64 k))] => decide (k = -2)
 | _ => false
def zEv (n : Nat) : Bool:=match zgp T (zU T 3000) 230 [vL [[ei (-2)]],vI n] [] with
 | some (.one (.own 0 0 0 m),[.cells 0 1 rows]) => decide (m = n) && (decide (rows.length = n) && rows.all zHo)
 | _ => false
set_option maxRecDepth 100000 in
theorem zEX : ((List.range 64).all fun n => zEv (n + 1)) = true:=by kernel_rfl
theorem zEO {r : List C} (h : zHo r = true) : r = zn (-2):=by
 unfold zHo at h;split at h
 ·simp only [decide_eq_true_eq] at h
  subst h;rfl
 ·cases h
theorem zvC (n : Nat) (e : 1 ≤ n) (d : n ≤ 64) : call T 230 [vL [[ei (-2)]],vI n] [] = some (.one (.own 0 0 0 n),[.cells 0 1 ((ya n (-2 : Int)).map zn)]):=by
 have h:=yq.1 zEX (n - 1) (List.mem_range.2 (by omega));rw [show n - 1 + 1 = n by omega] at h;unfold zEv at h;split at h
 ·rename_i m rows he
  simp only [yd,decide_eq_true_eq,yq] at h;obtain ⟨rfl,a,c⟩:=h
  have : rows = (ya m (-2 : Int)).map zn:=by
   rw [yp];exact List.eq_replicate_iff.2 ⟨a,fun r b => zEO (c r b)⟩
  rw [← this];exact zlA he
 ·cases h
theorem zkH {n : Nat} {a : Int} (h : inR n a = true) : 0 ≤ a ∧ a < (n : Int) ∧ ¬ a < 0 ∧ ¬ (n : Int) ≤ a:=by
 simp only [inR,yd,decide_eq_true_eq] at h;omega
section
variable (t at' : List Int)
theorem zD6 : ∀ (r : Nat) (a b c : Int) (a4 a5 a6 a7 : V),zqN t at' r a b = some c →
  exec T zmw ⟨[vIs t,vIs at',vI a,vI b,a4,a5,a6,a7],[],0,0⟩ = some (.exit 2,⟨[vIs t,vIs at',vI c,vI b,vU,vU,vU,vU],[],0,0⟩):=by
 intro r
 induction r with
 | zero => intro a b c _ _ _ _ h; simp [zqN] at h
 | succ r ih =>
   intro a b c a4 a5 a6 a7 h;rw [zqN] at h;split at h
   ·rename_i k
    simp only [yd] at k;obtain ⟨n,p,o⟩:=k;obtain ⟨p1,p2,e,j⟩:=zkH n;obtain ⟨m,q,l,g⟩:=zkH p;obtain ⟨s1,s2,i,f⟩:=zkH o;rw [xl zmw rfl,zqH];split at h
    ·rename_i d
     have:=ih _ b c vU vU vU vU h;simp -implicitDefEqProofs only [go_sem] at this;simp -implicitDefEqProofs only [go_sem,p1,m,s1,zvc e j,zvc l g,zvc i f,d,this]
    ·rename_i d
     injection h with h;subst h;simp -implicitDefEqProofs only [go_sem,p1,m,s1,zvc e j,zvc l g,zvc i f,d]
   ·cases h
theorem zC4 : ∀ (r : Nat) (a b c : Int) (a4 a5 a6 a7 : V),zqN t at' r b a = some c →
  exec T zmu ⟨[vIs t,vIs at',vI a,vI b,a4,a5,a6,a7],[],0,0⟩ = some (.exit 4,⟨[vIs t,vIs at',vI a,vI c,vU,vU,vU,vU],[],0,0⟩):=by
 intro r
 induction r with
 | zero => intro a b c _ _ _ _ h; simp [zqN] at h
 | succ r ih =>
   intro a b c a4 a5 a6 a7 h;rw [zqN] at h;split at h
   ·rename_i k
    simp only [yd] at k;obtain ⟨n,p,o⟩:=k;obtain ⟨p1,p2,e,j⟩:=zkH n;obtain ⟨m,q,l,g⟩:=zkH p;obtain ⟨s1,s2,i,f⟩:=zkH o;rw [xl zmu rfl,zpM];split at h
    ·rename_i d
     have:=ih a _ c vU vU vU vU h;simp -implicitDefEqProofs only [go_sem] at this;simp -implicitDefEqProofs only [go_sem,p1,m,s1,zvc e j,zvc l g,zvc i f,d,this]
    ·rename_i d
     injection h with h;subst h;simp -implicitDefEqProofs only [go_sem,p1,m,s1,zvc e j,zvc l g,zvc i f,d]
   ·cases h
theorem zEQ (K : Nat) : ∀ (r : Nat) (a b c : Int) (a4 a5 a6 a7 : V),zvf t at' K r a b = some c →
  exec T zmg ⟨[vIs t,vIs at',vI a,vI b,a4,a5,a6,a7],[],0,0⟩ = some (.exit 0,⟨[vU,vU,vI c,vU,vU,vU,vU,vU],[],0,0⟩):=by
 intro r
 induction r with
 | zero => intro a b c _ _ _ _ h; simp [zvf] at h
 | succ r ih =>
   intro a b c a4 a5 a6 a7 h;rw [zvf] at h;rw [xl zmg rfl,zqu];split at h
   ·rename_i d
    injection h with h;subst h;subst d;simp -implicitDefEqProofs only [go_sem]
   ·rename_i d
    split at h
    ·cases h
    ·rename_i e i
     split at h
     ·cases h
     ·rename_i f g
      have e1:=fun a4 a5 a6 a7 => zD6 t at' K a b e a4 a5 a6 a7 i;have e2:=fun a4 a5 a6 a7 => zC4 t at' K e b f a4 a5 a6 a7 g;have:=ih e f c vU vU vU vU h;simp -implicitDefEqProofs only [go_sem] at e1 e2 this;simp -implicitDefEqProofs only [go_sem,d,e1,e2,this]
theorem zzV (K r : Nat) (a b c : Int) (h : zvf t at' K r a b = some c) : call T 231 [vIs t,vIs at',vI a,vI b] [] = some (vI c,[]):=by
 rw [ze (fn:=zoz) rfl];have:=fun a4 a5 a6 a7 => zEQ t at' K r a b c a4 a5 a6 a7 h;simp -implicitDefEqProofs only [go_sem] at this;simp -implicitDefEqProofs only [go_sem,zoz,this]
end
theorem zwq {t : List Int} {a : Int} (c : ¬ a < 0) (b : ¬ (t.length : Int) ≤ a) : (t.map zn)[a.toNat]? = some [.f (.lit (.int .i64 (tr t a)))]:=by
 have : a.toNat < t.length:=by omega
 simp [tr,this,zn]
section
variable (succ pred : List (List Int)) (hpl : pred.length = succ.length) (hps : ∀ l ∈ pred,l.length ≤ 4294967296) (n : Nat) (hn : n = succ.length) (hn64 : n ≤ 64) (root : Int) (order tail at' : List Int) (hat : at'.length = n) (htl : tail.length ≤ 4294967296)
abbrev stT (succ pred : List (List Int)) (t at' : List Int) : zd:=[obG succ pred,.cells 0 1 (t.map zn),.cells 0 1 (at'.map zn)]
include hpl hps hn hn64 hat htl
theorem zFc (K : Nat) (t : List Int) (D : t.length = n) (x : Int) (z : Int) (a : List Int) (f : a.length ≤ 4294967296) : ∀ (d k : Nat) (b c : Int) (a0 a3 a5 a8 a9 q o i p g j r a25 a26 a27 a28 : V),a.length - k = d → k ≤ a.length → znm t at' K (a.drop k) b = some c →
  exec T zjC ⟨[a0,vI root,.one (.ptr 0 0 0 0),a3,vIs order,a5,.one (.own 1 0 0 n),.one (.own 2 0 0 n),a8,a9,vI x,vI b,q,o,i,p,g,j,vIs tail,vI tail.length,vI z,r,vIs a,vI a.length,vI k,a25,a26,a27,a28],stT succ pred t at',0,0⟩ =
   some (.exit 4,⟨[vU,vI root,.one (.ptr 0 0 0 0),vU,vIs order,vU,.one (.own 1 0 0 n),.one (.own 2 0 0 n),vU,vU,vI x,vI c,vU,vU,vU,vU,vU,vU,vIs tail,vI tail.length,vI z,vU,vU,vU,vU,vU,vU,vU,vU],stT succ pred t at',0,0⟩):=by
 intro d;have v : (t.map zn).take n = t.map zn:=yb (by simp; omega);have w : (at'.map zn).take n = at'.map zn:=yb (by simp; omega)
 induction d with
 | zero =>
   intro k b c a0 a3 a5 a8 a9 q o i p g j r a25 a26 a27 a28 A B h;have e : k = a.length:=(by omega);subst e;rw [ym] at h;simp only [znm,Option.some.injEq] at h;subst h;rw [xl zjC rfl,zmz];simp -implicitDefEqProofs only [go_sem,stT,obG,yo]
 | succ d ih =>
   intro k b c a0 a3 a5 a8 a9 q o i p g j r a25 a26 a27 a28 A B h;have e : k < a.length:=(by omega);have hd : a.drop k = a[k] :: a.drop (k + 1):=yf e;rw [hd,znm] at h;split at h
   ·rename_i C
    obtain ⟨p1,p2,s,u⟩:=zkH C;have l : a[k] < (n : Int):=(by omega);rw [xl zjC rfl,zmz];split at h
    ·rename_i c1
     have:=ih (k + 1) b c vU vU vU vU vU vU vU vU vU vU vU vU vU vU vU vU (by omega) (by omega) h;simp -implicitDefEqProofs only [go_sem,stT,obG] at this;simp -implicitDefEqProofs only [go_sem,stT,obG,ilt e,zj e,ri,p1,l,zwq s u,c1,za e f,this]
    ·rename_i c1
     split at h
     ·rename_i c2
      subst c2;have:=ih (k + 1) a[k] c vU vU vU vU vU vU vU vU vU vU vU vU vU vU vU vU (by omega) (by omega) h;simp -implicitDefEqProofs only [go_sem,stT,obG] at this;simp -implicitDefEqProofs only [go_sem,stT,obG,ilt e,zj e,ri,p1,l,zwq s u,c1,za e f,this]
     ·rename_i c2
      split at h
      ·cases h
      ·rename_i m hm
       have y:=zzV t at' K K b a[k] m hm;have:=ih (k + 1) m c vU vU vU vU vU vU vU vU vU vU vU vU vU vU vU vU (by omega) (by omega) h;simp -implicitDefEqProofs only [go_sem,stT,obG] at this y;simp -implicitDefEqProofs only [go_sem,stT,obG,ilt e,zj e,ri,p1,l,zwq s u,c1,c2,v,w,zdA,y,za e f,this]
   ·cases h
theorem zEN (K : Nat) (t : List Int) (A : t.length = n) : ∀ (d k : Nat) (res : Option (Int × Int)) (a0 a3 a5 a8 a9 r q j g c i a e m a22 a23 a24 a25 a26 a27 a28 : V),tail.length - k = d → k ≤ tail.length → ztL pred t at' K (tail.drop k) = some res →
  exec T zjo ⟨[a0,vI root,.one (.ptr 0 0 0 0),a3,vIs order,a5,.one (.own 1 0 0 n),.one (.own 2 0 0 n),a8,a9,r,q,j,g,c,i,a,e,vIs tail,vI tail.length,vI k,m,a22,a23,a24,a25,a26,a27,a28],stT succ pred t at',0,0⟩ =
   some (match res with
    | none => (.exit 2,⟨[vU,vI root,vU,vU,vU,vU,.one (.own 1 0 0 n),vU,vU,vU,vU,vU,vU,vU,vU,vU,vU,vU,vU,vU,vU,vU,vU,vU,vU,vU,vU,vU,vU],stT succ pred t at',0,0⟩)
    | some (x,b) => (.goto 0,⟨[vU,vI root,.one (.ptr 0 0 0 0),vU,vIs order,vU,.one (.own 1 0 0 n),.one (.own 2 0 0 n),vU,vU,vU,vU,vU,vU,vU,vU,vU,vU,vU,vU,vU,vU,vU,vU,vU,vU,vU,vU,vU],stT succ pred (t.set x.toNat b) at',0,0⟩)):=by
 intro d
 induction d with
 | zero =>
   intro k res a0 a3 a5 a8 a9 r q j g c i a e m a22 a23 a24 a25 a26 a27 a28 z D h;have p : k = tail.length:=(by omega);subst p;rw [ym] at h;simp only [ztL,Option.some.injEq] at h;subst h;rw [xl zjo rfl,zmb];simp -implicitDefEqProofs only [go_sem,stT,obG,yo]
 | succ d ih =>
   intro k res a0 a3 a5 a8 a9 r q j g c i a e m a22 a23 a24 a25 a26 a27 a28 z D h;have p : k < tail.length:=(by omega);have hd : tail.drop k = tail[k] :: tail.drop (k + 1):=yf p;rw [hd,ztL] at h;split at h
   ·rename_i E
    obtain ⟨p1,p2,w,y⟩:=zkH E;have s : tail[k] < (n : Int):=(by omega);have o : tail[k].toNat < pred.length:=(by omega);have v : pred.getD tail[k].toNat [] = pred[tail[k].toNat]:=(by simp [o]);rw [v] at h;split at h
    ·cases h
    ·rename_i b B
     have l:=fun a0 a3 a5 a8 a9 j g c i a e m a25 a26 a27 a28 => zFc succ pred hpl hps n hn hn64 root order tail at' hat htl K t A tail[k] k pred[tail[k].toNat] (hps _ (yr o)) _ 0 (-2) b a0 a3 a5 a8 a9 j g c i a e m a25 a26 a27 a28 rfl (yv _) B;rw [xl zjo rfl,zmb];simp only [yk] at l;split at h
     ·rename_i c1
      have:=ih (k + 1) res vU vU vU vU vU vU vU vU vU vU vU vU vU vU vU vU vU vU vU vU vU (by omega) (by omega) h;simp -implicitDefEqProofs only [go_sem,stT,obG] at this l;simp -implicitDefEqProofs only [go_sem,stT,obG,ilt p,zj p,zj o,ri,rl,p1,s,l,zwq w y,c1,za p htl,this]
     ·rename_i c1
      injection h with h;subst h;have u : (t.map zn).set tail[k].toNat [C.f (.lit (.int .i64 b))] = (t.set tail[k].toNat b).map zn:=(by rw [yl]; rfl);simp -implicitDefEqProofs only [go_sem,stT,obG] at l;simp -implicitDefEqProofs only [go_sem,stT,obG,ilt p,zj p,zj o,ri,rl,p1,s,l,zwq w y,c1,u]
   ·cases h
end
def znq : Go.A.Code:=zal.p2.p2.p2.p2.p2.p2.p2
theorem zz1 : zms = .seq .skip znq:=rfl
section
variable (succ pred : List (List Int)) (hpl : pred.length = succ.length) (hps : ∀ l ∈ pred,l.length ≤ 4294967296) (n : Nat) (hn : n = succ.length) (hn64 : n ≤ 64) (root : Nat) (hroot : root < n) (tail : List Int) (htl : tail.length ≤ 4294967295)
include hpl hps hn hn64
theorem zEM (order : List Int) (p : order.length ≤ 4294967296) (r : ∀ x ∈ order,0 ≤ x ∧ x < (n : Int)) (t : List Int) : ∀ (d k : Nat) (at' : List Int) (a0 a3 a5 a8 a9 m e j h g b c a20 l a22 a23 a24 a25 a26 a27 a28 : V),at'.length = n → order.length - k = d → k ≤ order.length →
  exec T zjE ⟨[a0,vI root,.one (.ptr 0 0 0 0),a3,vIs order,a5,.one (.own 1 0 0 n),.one (.own 2 0 0 n),a8,a9,m,e,j,h,vIs order,vI order.length,vI k,g,b,c,a20,l,a22,a23,a24,a25,a26,a27,a28],stT succ pred t at',0,0⟩ =
   some (.exit 0,⟨[vU,vI root,.one (.ptr 0 0 0 0),vU,vIs order,vU,.one (.own 1 0 0 n),.one (.own 2 0 0 n),vU,vU,vU,vU,vU,vU,vU,vU,vU,vU,vU,vU,vU,vU,vU,vU,vU,vU,vU,vU,vU],stT succ pred t (zkP k (order.drop k) at'),0,0⟩):=by
 intro d
 induction d with
 | zero =>
   intro k at' a0 a3 a5 a8 a9 m e j h g b c a20 l a22 a23 a24 a25 a26 a27 a28 q u v;have i : k = order.length:=(by omega);subst i;rw [xl zjE rfl,zmi];simp -implicitDefEqProofs only [go_sem,stT,obG,yo,ym,zkP]
 | succ d ih =>
   intro k at' a0 a3 a5 a8 a9 m e j h g b c a20 l a22 a23 a24 a25 a26 a27 a28 q u v;have i : k < order.length:=(by omega);have hd : order.drop k = order[k] :: order.drop (k + 1):=yf i;obtain ⟨p1,p2⟩:=r _ (yr i);have s:=zwq (t:=at') (a:=order[k]) (by omega) (by omega);have o : (at'.map zn).set order[k].toNat [C.f (.lit (.int .i64 (k : Int)))] = (at'.set order[k].toNat (k : Int)).map zn:=(by rw [yl]; rfl);have:=ih (k + 1) (at'.set order[k].toNat (k : Int)) vU vU vU vU vU vU vU vU vU vU vU vU vU vU vU vU vU vU vU vU vU (by simpa using q) (by omega) (by omega);rw [xl zjE rfl,zmi,hd,zkP];simp -implicitDefEqProofs only [go_sem,stT,obG] at this;simp -implicitDefEqProofs only [go_sem,stT,obG,ilt i,zj i,ri,p1,p2,s,o,za i p,this]
include hroot htl
theorem zsp (K : Nat) (at' : List Int) (w : at'.length = n) (t : List Int) (z : t.length = n) (o : Int) (res : Option (Int × Int)) (h : ztL pred t at' K tail = some res)
  (a0 a3 a5 a8 a9 m g k i d j c e s v a20 l a22 a23 a24 a25 a26 a27 a28 : V) :
  exec T znq ⟨[a0,vI root,.one (.ptr 0 0 0 0),a3,vIs (o :: tail),a5,.one (.own 1 0 0 n),.one (.own 2 0 0 n),a8,a9,m,g,k,i,d,j,c,e,s,v,a20,l,a22,a23,a24,a25,a26,a27,a28],stT succ pred t at',0,0⟩ =
   some (match res with
    | none => (.ret,⟨[vU,vU,vU,.one (.own 1 0 0 n),vU,vU,vU,vU,vU,vU,vU,vU,vU,vU,vU,vU,vU,vU,vU,vU,vU,vU,vU,vU,vU,vU,vU,vU,vU],stT succ pred (t.set root (-1)) at',0,0⟩)
    | some (x,b) => (.goto 0,⟨[vU,vI root,.one (.ptr 0 0 0 0),vU,vIs (o :: tail),vU,.one (.own 1 0 0 n),.one (.own 2 0 0 n),vU,vU,vU,vU,vU,vU,vU,vU,vU,vU,vU,vU,vU,vU,vU,vU,vU,vU,vU,vU,vU],stT succ pred (t.set x.toNat b) at',0,0⟩)):=by
 have p:=fun a0 a3 a5 a8 a9 m g k i d j c e l a22 a23 a24 a25 a26 a27 a28 => zEN succ pred hpl hps n hn hn64 root (o :: tail) tail at' w (by omega) K t z tail.length 0 res a0 a3 a5 a8 a9 m g k i d j c e l a22 a23 a24 a25 a26 a27 a28 (by omega) (by omega) h;simp only [yk] at p;have q : (ri o).length = 1:=rfl;have e1 : (ri o :: tail.map ri).take (tail.length + 1) = ri o :: tail.map ri:=yb (by simp);have e2 : (1 ≤ tail.length + 1) = True:=by simp
 have u : ((root : Int) < (n : Int)) = True:=by simp; omega
 have r : (t.map zn).set root [C.f (.lit (.int .i64 (-1)))] = (t.set root (-1)).map zn:=by rw [yl]; rfl
 have y:=zwq (t:=t) (a:=(root : Int)) (by omega) (by omega);rw [yh] at y
 cases res with
 | none =>
   simp -implicitDefEqProofs only [go_sem,stT,obG] at p;simp -implicitDefEqProofs only [go_sem,stT,obG,znq,zal,Code.p2,ys,q,zv2,e1,e2,p,u,yj,yh,y,r]
 | some xb =>
   obtain ⟨x,b⟩:=xb;simp -implicitDefEqProofs only [go_sem,stT,obG] at p;simp -implicitDefEqProofs only [go_sem,stT,obG,znq,zal,Code.p2,ys,q,zv2,e1,e2,p]
theorem zC0 (K : Nat) (at' : List Int) (m : at'.length = n) (s : Int) : ∀ (r : Nat) (t p : List Int) (a0 a3 a5 a8 a9 o g k i d j c f a e a20 l a22 a23 a24 a25 a26 a27 a28 : V),t.length = n → zh4 pred at' K tail r t = some p →
  exec T (.sc zal zms) ⟨[a0,vI root,.one (.ptr 0 0 0 0),a3,vIs (s :: tail),a5,.one (.own 1 0 0 n),.one (.own 2 0 0 n),a8,a9,o,g,k,i,d,j,c,f,a,e,a20,l,a22,a23,a24,a25,a26,a27,a28],stT succ pred t at',0,0⟩ =
   some (.ret,⟨[vU,vU,vU,.one (.own 1 0 0 n),vU,vU,vU,vU,vU,vU,vU,vU,vU,vU,vU,vU,vU,vU,vU,vU,vU,vU,vU,vU,vU,vU,vU,vU,vU],stT succ pred (p.set root (-1)) at',0,0⟩):=by
 intro r
 induction r with
 | zero => intro t p _ _ _ _ _ _ _ _ _ _ _ _ _ _ _ _ _ _ _ _ _ _ _ _ _ h; simp [zh4] at h
 | succ r ih =>
   intro t p a0 a3 a5 a8 a9 o g k i d j c f a e a20 l a22 a23 a24 a25 a26 a27 a28 q h;rw [zh4] at h;rw [zfl,zz1,zfP,zfC];simp only [yg,zrr];split at h
   ·cases h
   ·rename_i u
    injection h with h;subst h;rw [zsp succ pred hpl hps n hn hn64 root hroot tail htl K at' m t q s none u];simp only [yg,scK]
   ·rename_i x b u
    rw [zsp succ pred hpl hps n hn hn64 root hroot tail htl K at' m t q s (some (x,b)) u];simp only [yg,scK,zry];exact ih _ _ _ _ _ _ _ _ _ _ _ _ _ _ _ _ _ _ _ _ _ _ _ _ _ _ (by simpa using q) h
end
def zGl : Go.A.Code:=zal.p1
def zF9 : Go.A.Code:=zal.p2.p1
def zG0 : Go.A.Code:=zal.p2.p2.p1
def zGR : Go.A.Code:=zal.p2.p2.p2.p1
def zGH : Go.A.Code:=zal.p2.p2.p2.p2.p1
def zGa : Go.A.Code:=zal.p2.p2.p2.p2.p2.p1
theorem zHB : zal = .seq zGl (.seq zF9 (.seq zG0 (.seq zGR (.seq zGH (.seq zGa (.seq (.label 0) znq)))))):=rfl
theorem zAj (succ pred : List (List Int)) (R : zkN succ) (hm : zCf succ pred = true) (root : Nat) (N : root < succ.length) (k : Nat) (V : k ≤ 4294967295) (o : List Int) (S : dfs succ k (ztS root) = some o)
  (g : Int) (tail : List Int) (a : o.reverse = g :: tail) (L : ∀ x ∈ o,0 ≤ x ∧ x < (succ.length : Int)) (W : o.length ≤ 4294967295) (K r : Nat) (t : List Int) (B : zh4 pred (at0 succ.length o.reverse) K tail r (zlK succ.length root) = some t) :
  call T 195 [.agg [.f (.sl (succ.map rl)),.f (.sl (pred.map rl))],vI root] [] = some (vIs (t.set root (-1)),[]):=by
 rw [ze (fn:=zob) rfl];have b : zbA succ = true ∧ zR succ = pred:=by simpa [zCf] using hm
 obtain ⟨Y,E,Z⟩:=zgY b.1;have hpl : pred.length = succ.length:=by rw [← b.2,zcf]
 have hps : ∀ l ∈ pred,l.length ≤ 4294967296:=by rw [← b.2]; exact zkx succ R (zhB b.1)
 have P:=zya succ pred R hm root N k V o S;have Q:=zvC succ.length Y E
 have htl : tail.length ≤ 4294967295:=by
  have : o.reverse.length = tail.length + 1:=by rw [a]; rfl
  rw [List.length_reverse] at this;omega
 have I:=fun a0 a3 a5 a8 a9 u j n m i d e a20 p a22 a23 a24 a25 a26 a27 a28 => zEM succ pred hpl hps succ.length rfl E root (g :: tail) (by simp only [yi]; omega) (fun x X => L x (List.mem_reverse.1 (by rw [a]; exact X))) (ya succ.length (-2)) (g :: tail).length 0 (ya succ.length 0) a0 a3 a5 a8 a9 u j n m i d e a20 p a22 a23 a24 a25 a26 a27 a28 (by simp) rfl (yv _);simp only [List.drop_zero,yk] at I;rw [a] at P B;have A : ((root : Int) < (succ.length : Int)) = True:=by simp; omega
 have w : ((ya succ.length (-2 : Int)).map zn).set root [C.f (.lit (.int .i64 (root : Int)))] = (zlK succ.length root).map zn:=by rw [zlK,yl]; rfl
 have q : ((ya succ.length (-2 : Int)).map zn)[root]? = some [.f (.lit (.int .i64 (-2)))]:=by simp [N,zn]
 have M : (at0 succ.length (g :: tail)).length = succ.length:=by rw [at0,zjv]; simp
 have v : (succ.length : Int) ≤ (LIM : Int):=by unfold LIM; omega
 have U : ya succ.length [C.f (.lit (.int .i64 0))] = (ya succ.length (0 : Int)).map zn:=by rw [yp]; rfl
 have G : ¬ ((tail.length + 1 : Nat) : Int) = 0:=by omega
 have e1 : exec T (.scope zal) ⟨[.agg [.f (.sl (succ.map rl)),.f (.sl (pred.map rl))],vI root,.one (.ptr 0 0 0 0),vL [],vU,vU,vU,vU,vU,vU,vU,vU,vU,vU,vU,vU,vU,vU,vU,vU,vU,vU,vU,vU,vU,vU,vU,vU,vU],[obG succ pred],0,0⟩ = some (.ret,⟨[vU,vU,vU,.one (.own 1 0 0 succ.length),vU,vU,vU,vU,vU,vU,vU,vU,vU,vU,vU,vU,vU,vU,vU,vU,vU,vU,vU,vU,vU,vU,vU,vU,vU],stT succ pred (t.set root (-1)) (at0 succ.length (g :: tail)),0,0⟩):=by
  have h:=fun a0 a3 a5 a8 a9 u j n m D J y i d e a20 p a22 a23 a24 a25 a26 a27 a28 => zC0 succ pred hpl hps succ.length rfl E root N tail htl K (at0 succ.length (g :: tail)) M g r (zlK succ.length root) t a0 a3 a5 a8 a9 u j n m D J y i d e a20 p a22 a23 a24 a25 a26 a27 a28 (by simp [zlK]) B;rw [← h vU vU vU vU vU vU vU vU vU vU vU vU vU vU vU vU vU vU vU vU vU vU vU vU];rw [ziZ,zfl,zfl]
  congr 1
  rw [zz1,zfP,zfC];simp only [yg,zrr];rw [zHB];have O : zGR = .regd [] [⟨.loc,.bsl .fz 1 [[.f (.lit (.int .i64 0))]] [(0,.c (vI (-2)))],none⟩,⟨.loc,.mv (.s 5),none⟩,⟨.loc,.call .ck (.c (.one (.fn 230 [] []))) [.l 1,.l 0],none⟩,⟨.loc,.mv (.s 5),none⟩,⟨.loc,.mks [.f (.lit (.int .i64 0))] none (.l 0),none⟩,⟨.slot 6,.mv (.l 2),none⟩,⟨.slot 7,.mv (.l 1),none⟩]:=rfl
  have z : (yw zn (ya succ.length (-2 : Int))).map (C.shifts 1) = yw zn (ya succ.length (-2 : Int)):=by
   rw [List.map_map];rfl
  simp -implicitDefEqProofs only [go_sem,obG,stT] at P Q I;simp -implicitDefEqProofs only [go_sem,obG,stT,zGl,zF9,zG0,O,zGH,zGa,zal,Code.p1,Code.p2,P,Q,G,v,yj,yh,U,z,I,A,q,w];rfl
 have H : ((t.set root (-1)).map zn).take succ.length = (t.set root (-1)).map zn:=yb (by have:=zl8 B; simp [zlK] at this; simp; omega);simp -implicitDefEqProofs only [go_sem,obG,stT] at e1;simp -implicitDefEqProofs only [go_sem,zob,e1,H,zdA]
open Dm
theorem zu5 {α : Type} (k a : Int) (v : α) : ∀ D : List (Int × α),getM k (zkf a v D) = if a = k then some v else getM k D
 | [] => by by_cases c : a = k <;> simp [zkf,getM,c]
 | e :: D => by
   rw [zkf]
   by_cases c : e.1 = a
   ·rw [if_pos c,getM,getM]
    by_cases d : a = k
    ·rw [if_pos d,if_pos d]
    ·rw [if_neg d,if_neg d,if_neg (fun h => d (c.symm.trans h))]
   ·rw [if_neg c,getM,getM,zu5 k a v D]
    by_cases d : e.1 = k
    ·rw [if_pos d,if_pos d,if_neg (fun h => c (d.trans h.symm))]
    ·rw [if_neg d,if_neg d]
def toP (u : Use) : PDef:=⟨u.block,u.at',u.shape⟩
def lk (ds : List Use) (v : Int) : Option PDef:=(ds.find? fun u => decide (u.v = v)).map toP
def Rep (D : zlD) (ds : List Use) : Prop:=∀ v,getM v D = lk ds v
theorem zGA (ds : List Use) (u : Use) (v : Int) : lk (ds ++ [u]) v = if (lk ds v).isSome = true then lk ds v else if u.v = v then some (toP u) else none:=by
 unfold lk;rw [List.find?_append]
 cases h : ds.find? (fun u => decide (u.v = v)) with
 | some x => simp
 | none =>
   by_cases c : u.v = v
   ·simp [c]
   ·simp [c]
theorem zwA {D : zlD} {ds : List Use} (R : Rep D ds) (u : Use) (h : (lk ds u.v).isNone = true) : Rep (zkf u.v (toP u) D) (ds ++ [u]):=by
 intro v;rw [zu5,zGA,R v]
 by_cases c : u.v = v
 ·subst c
  have : (lk ds u.v).isSome = false:=by
   cases e : lk ds u.v
   ·rfl
   ·rw [e] at h; cases h
  rw [if_pos rfl,this,if_neg (by simp),if_pos rfl]
 ·rw [if_neg c,if_neg c]
  cases e : lk ds v <;> simp
def zg4 : List Use → List Use → Bool
 | _,[] => true
 | pre,u :: r => (value u.v && (lk pre u.v).isNone) && zg4 (pre ++ [u]) r
theorem znH : ∀ (a b pre : List Use),zg4 pre (a ++ b) = (zg4 pre a && zg4 (pre ++ a) b)
 | [],b,pre => by rw [yn,List.append_nil,zg4,yu]
 | u :: a,b,pre => by
   rw [yt,zg4,zg4,znH a b];simp only [Bool.and_assoc,yc,ye]
theorem zow {ds : List Use} {v : Int} : (lk ds v).isNone = true ↔ ∀ u ∈ ds,u.v ≠ v:=by
 unfold lk;rw [Option.isNone_map,Option.isNone_iff_eq_none,List.find?_eq_none];simp
theorem zxB (v : Int) : ∀ (pre : List Use) (u : Use) (r : List Use) (k : Nat),u.v = v → (zl v k (pre ++ u :: r) = ((k + pre.length : Nat) : Int) ↔ ∀ x ∈ pre,x.v ≠ v)
 | [],u,r,k,h => by simp [zl,h]
 | x :: pre,u,r,k,h => by
   rw [yt,zl]
   by_cases c : x.v = v
   ·rw [if_pos c]
    constructor
    ·intro e
     simp only [yi] at e;omega
    ·intro e
     exact absurd c (e x List.mem_cons_self)
   ·rw [if_neg c]
    have b:=zxB v pre u r (k + 1) h;rw [show k + 1 + pre.length = k + (x :: pre).length by simp only [yi]; omega] at b;rw [b];constructor
    ·intro e y a
     rcases List.mem_cons.1 a with rfl | a
     ·exact c
     ·exact e y a
    ·exact fun e y a => e y (List.mem_cons_of_mem _ a)
theorem ztE (defs : List Use) : ∀ (r pre : List Use),defs = pre ++ r → zgm defs pre.length r = zg4 pre r
 | [],_,_ => rfl
 | u :: r,pre,h => by
   have a:=ztE defs r (pre ++ [u]) (by rw [h]; simp);rw [List.length_append,List.length_singleton] at a;rw [zgm,zg4,a]
   congr 2
   have b:=zxB u.v pre u r 0 rfl;rw [← h,Nat.zero_add] at b;rw [Bool.eq_iff_iff,decide_eq_true_eq,b,zow]
theorem znn {v : Int} : value v = true ↔ ¬ (v < 1 ∨ 1023 < v):=by
 unfold value;rw [yd,decide_eq_true_eq,decide_eq_true_eq];omega
theorem zst : ∀ (l : List Int) (k : Nat) (D : zlD) (pre : List Use),Rep D pre → (∀ u ∈ pre,u.v ≤ (k : Int)) → k + l.length ≤ 16 → Rep (zeS k D l) (pre ++ za0 k l) ∧ zg4 pre (za0 k l) = true
 | [],k,D,pre,R,_,_ => by simpa [zeS,za0,zg4] using R
 | b :: l,k,D,pre,R,hp,hl => by
   have a : (lk pre ((k : Int) + 1)).isNone = true:=zow.2 fun u hu => by have:=hp u hu; omega
   simp only [yi] at hl
   obtain ⟨c,d⟩:=zst l (k + 1) (zkf ((k : Int) + 1) ⟨-1,0,(b,1)⟩ D) (pre ++ [(⟨(k : Int) + 1,(b,1),-1,0⟩ : Use)]) (zwA R (⟨(k : Int) + 1,(b,1),-1,0⟩ : Use) a) (fun u hu => by
    rcases List.mem_append.1 hu with hu | hu
    ·have:=hp u hu; omega
    ·rw [List.mem_singleton.1 hu]; show (k : Int) + 1 ≤ _; omega) (by omega)
   rw [zeS,za0,zg4,d];rw [yc,ye] at c;refine ⟨c,?_⟩;have e : value ((k : Int) + 1) = true:=znn.2 (by omega);simp only [e,a,Bool.and_true]
theorem zwK (i : Int) : ∀ (l : List PPhi) (D : zlD) (pre : List Use),Rep D pre → ((zhX i D l).2.isNone = zg4 pre (zc0 i l)) ∧ (zg4 pre (zc0 i l) = true → Rep (zhX i D l).1 (pre ++ zc0 i l))
 | [],D,pre,R => ⟨rfl,fun _ => by simpa [zhX,zc0] using R⟩
 | p :: l,D,pre,R => by
   have e : zc0 i (p :: l) = ⟨p.dst,(p.bits,1),i,-1⟩ :: zc0 i l:=rfl;rw [zhX,e,zg4]
   by_cases c : p.dst < 1 ∨ 1023 < p.dst
   ·have a : value p.dst = false:=by
     cases h : value p.dst
     ·rfl
     ·exact absurd c (znn.1 h)
    rw [if_pos c,a];exact ⟨rfl,fun h => by simp at h⟩
   ·have a : value p.dst = true:=znn.2 c
    rw [if_neg c,a,R p.dst];cases d : (lk pre p.dst).isNone
    ·rw [if_neg (by simp)]
     exact ⟨rfl,fun h => by simp at h⟩
    ·rw [if_pos rfl]
     have f : Rep (zkf p.dst ⟨i,-1,(p.bits,1)⟩ D) (pre ++ [(⟨p.dst,(p.bits,1),i,-1⟩ : Use)]):=zwA R (⟨p.dst,(p.bits,1),i,-1⟩ : Use) d;obtain ⟨g,b⟩:=zwK i l _ _ f;rw [yc,ye] at b;exact ⟨by simpa using g,fun h => b (by simpa using h)⟩
theorem zvW {o : POp} (h : 0 < (zT o).1) : value o.dst = true:=by
 unfold zT at h;split at h
 ·simp at h
 ·rename_i c
  have hm : zgN o = true:=by
   cases e : zgN o
   ·exact absurd (.inl e) c
   ·rfl
  have a : zgg o.kind = false:=by
   cases e : zgg o.kind
   ·rfl
   ·exact absurd (.inr e) c
  unfold zgN at hm;simp only [yd] at hm;have:=hm.2.2.1;rw [a] at this;simpa using this
theorem zvG (i : Int) : ∀ (l : List POp) (k : Nat) (D : zlD) (pre : List Use),Rep D pre → ((zka i k D l).2.isNone = zg4 pre (zby i k l)) ∧ (zg4 pre (zby i k l) = true → Rep (zka i k D l).1 (pre ++ zby i k l))
 | [],k,D,pre,R => ⟨rfl,fun _ => by simpa [zka,zby] using R⟩
 | o :: l,k,D,pre,R => by
   rw [zka,zby]
   by_cases c : (zT o).1 ≤ 0
   ·rw [if_pos c,if_neg (show ¬ 0 < (zT o).1 by omega)]
    exact zvG i l (k + 1) D pre R
   ·rw [if_neg c,if_pos (show 0 < (zT o).1 by omega),zg4,zvW (o:=o) (by omega),R o.dst]
    cases b : (lk pre o.dst).isNone
    ·rw [if_neg (by simp)]
     exact ⟨rfl,fun h => by simp at h⟩
    ·rw [if_pos rfl]
     have d : Rep (zkf o.dst ⟨i,(k : Int),zT o⟩ D) (pre ++ [(⟨o.dst,zT o,i,(k : Int)⟩ : Use)]):=zwA R (⟨o.dst,zT o,i,(k : Int)⟩ : Use) b;obtain ⟨e,a⟩:=zvG i l (k + 1) _ _ d;rw [yc,ye] at a;exact ⟨by simpa using e,fun h => a (by simpa using h)⟩
theorem zsz : ∀ (l : List PBlock) (k : Nat) (D : zlD) (pre : List Use),Rep D pre → ((zeT k D l).2.isNone = zg4 pre (zL k l)) ∧ (zg4 pre (zL k l) = true → Rep (zeT k D l).1 (pre ++ zL k l))
 | [],k,D,pre,R => ⟨rfl,fun _ => by simpa [zeT,zL] using R⟩
 | b :: l,k,D,pre,R => by
   obtain ⟨p1,p2⟩:=zwK (k : Int) b.phis D pre R;rw [zeT,zL,znH,znH]
   cases g : zhX (k : Int) D b.phis with
   | mk D1 q =>
     rw [g] at p1 p2
     cases q with
     | some x =>
       rw [← p1];exact ⟨rfl,fun h => by simp at h⟩
     | none =>
       rw [← p1];have d:=p2 (by rw [← p1]; rfl);simp only at d;obtain ⟨a,c⟩:=zvG (k : Int) b.ops 0 D1 _ d;simp only
       cases f : zka (k : Int) 0 D1 b.ops with
       | mk D2 q2 =>
         rw [f] at a c
         cases q2 with
         | some x =>
           rw [← a];exact ⟨rfl,fun h => by simp at h⟩
         | none =>
           rw [← a];have e:=c (by rw [← a]; rfl);obtain ⟨b1,b2⟩:=zsz l (k + 1) D2 _ e;rw [yc] at b1 b2;simp only [yc] at b1 b2;refine ⟨by simpa using b1,fun h => ?_⟩;have:=b2 (by simpa using h);simpa [yc] using this
theorem zDz {f : PFunc} (h : f.params.length ≤ 16) : ((ztn f).2.isNone = zgm (zN f) 0 (zN f)) ∧ (zgm (zN f) 0 (zN f) = true → Rep (ztn f).1 (zN f)):=by
 have e:=ztE (zN f) (zN f) [] (by simp);rw [List.length_nil] at e;have c : Rep [] []:=fun v => rfl;obtain ⟨a,b⟩:=zst f.params 0 [] [] c (by simp) (by omega);rw [yn] at a;obtain ⟨b1,b2⟩:=zsz f.blocks 0 _ _ a
 have ea : zg4 [] (zN f) = zg4 (za0 0 f.params) (zL 0 f.blocks):=by
  unfold zN;rw [znH,b,yu,yn]
 rw [e,ea];exact ⟨b1,b2⟩
end AC
