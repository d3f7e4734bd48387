/- A part of the proof of AffineFinds. Conditions: none. -/
import Derived.Test.YtmkncmffaaninaaGreatXBG
import Derived.Test.YtmkncmffaaninaaGreatXBF
set_option linter.all false
open List renaming replicate → ya,take_of_length_le → yb,append_assoc → yc,singleton_append → ye,drop_eq_getElem_cons → yf,length_cons → yi,map_set → yl,drop_length → ym,nil_append → yn,map_replicate → yp,all_eq_true → yq,getElem_mem → yr,cons_append → yt,map → yw
open Bool renaming and_eq_true → yd,true_and → yu
open Option renaming bind_some → yg
open Int renaming toNat_natCast → yh,natCast_nonneg → yj,natCast_zero → yk,lt_irrefl → yo,reduceToNat → ys
open Nat renaming zero_le → yv
namespace AC
open Go Go.A Go.A.Lex
@[go_sem] theorem zrs (succ pred : List (List Int)) (a : zlg succ) : call T 148 [.agg [.f (.sl (succ.map rl)),.f (.sl (pred.map rl))]] [] = some (vB (zDb succ pred),[]):=by
  rw [ze (fn:=zjn) rfl];have hm:=zk7 succ a;cases e : zbH succ
  ·simp -implicitDefEqProofs only [go_sem,zkE,e] at hm
   simp -implicitDefEqProofs only [go_sem,zjn,hm,zDb,e]
  ·have b:=zms (zZ succ) pred [.cells 0 2 [[.f (.sl (succ.map rl)),.f (.sl (pred.map rl))]],.cells 0 2 [[.f (.sl (succ.map rl)),.f (.sl ((zZ succ).map rl))]]] (by rw [zcu]; exact a.1) (zla succ a (zhA e))
   simp -implicitDefEqProofs only [go_sem,zkE,e] at hm b;simp -implicitDefEqProofs only [go_sem,zjn,hm,b,zDb,e]
theorem zke : zrz.length = 64:=rfl
theorem zoT : zpf.length = 64:=rfl
def zJi : Go.A.Code:=zx.p1
def zJc : Go.A.Code:=zx.p2.p1
def zIF : Go.A.Code:=zx.p2.p2.p1
def zIP : Go.A.Code:=zx.p2.p2.p2.p1
def zJp : Go.A.Code:=zx.p2.p2.p2.p2.p1
def zIZ : Go.A.Code:=zx.p2.p2.p2.p2.p2.p1
theorem zIS : zx = .seq zJi (.seq zJc (.seq zIF (.seq zIP (.seq zJp (.seq zIZ (.seq (.label 0) zk0)))))):=rfl
theorem zF8 (succ pred : List (List Int)) (a : zlg succ) (hm : zDb succ pred = true) (root : Nat) (d : root < succ.length) : exec T zJi ⟨[.agg [.f (.sl (succ.map rl)),.f (.sl (pred.map rl))],vI root,.one (.ptr 0 0 0 0),vL [],vU,vU,vU,vU,vU,vU,vU,vU,vU,vU],[obG succ pred],0,0⟩ =
  some (.normal,⟨[.agg [.f (.sl (succ.map rl)),.f (.sl (pred.map rl))],vI root,.one (.ptr 0 0 0 0),vL [],vU,vU,vU,vU,vU,vU,vB false,vU,vU,vU],[obG succ pred],0,0⟩):=by
 have h:=zrs succ pred a;rw [hm] at h;have b : ¬ (root : Int) < 0:=by omega
 have c : ¬ (succ.length : Int) ≤ (root : Int):=by omega
 simp -implicitDefEqProofs only [go_sem] at h;simp -implicitDefEqProofs only [go_sem,zJi,zx,Code.p1,obG,h,b,c]
theorem zEg (succ pred : List (List Int)) (root : Nat) (h : root < 64) (c : Go.A.Code) (a0 a3 a : V) : exec T (.seq zJc (.seq zIF (.seq zIP (.seq zJp (.seq zIZ c))))) ⟨[a0,vI root,.one (.ptr 0 0 0 0),a3,vU,vU,vU,vU,vU,vU,a,vU,vU,vU],[obG succ pred],0,0⟩ =
  exec T c ⟨[a0,vI root,.one (.ptr 0 0 0 0),a3,.one (.ptr 1 0 0 0),.one (.ptr 2 0 0 0),.one (.own 3 0 0 0),.one (.own 4 0 0 1),vU,vU,a,vU,vU,vU],stO succ pred (zrz.set root true) zpf 0 [] 0 [(root : Int)],0,0⟩:=by
 have d : ((root : Int) < 64) = True:=by simp; omega
 have b:=ztg (e:=zrz.map cB) (k:=root) (.f (.lit (.bool true))) (by rw [List.length_map,zke]; exact h);have j : (zrz.map cB).set root (C.f (.lit (.bool true))) = (zrz.set root true).map cB:=by rw [yl]; rfl
 rw [j] at b;have hle:=zrE (show root < 64 by omega);have g : zJc = .reg [w 4 (.al (zrz.map cB) [])]:=rfl;have i : zIF = .reg [w 5 (.al (zpf.map cN) [])]:=rfl;rw [g,i];simp -implicitDefEqProofs only [go_sem,zIP,zJp,zIZ,zx,Code.p1,Code.p2,obG,stO,zke,zoT,d,yj,yh,Nat.mul_one,b,hle,zG]
@[go_sem] theorem zzS (succ pred : List (List Int)) (m : zlg succ) (hm : zDb succ pred = true) (root : Nat) (p : root < succ.length) (k : Nat) (w : k ≤ 4294967295) (o : List Int) (r : dfs succ k (zt1 root) = some o) :
   call T 100 [.agg [.f (.sl (succ.map rl)),.f (.sl (pred.map rl))],vI root] [] = some (vIs o.reverse,[]):=by
  rw [ze (fn:=zjS) rfl];have e : zbH succ = true:=by simp only [zDb,yd] at hm; exact hm.1
  obtain ⟨z,s,u⟩:=zgW e;have i : ∀ l ∈ succ,∀ y ∈ l,0 ≤ y ∧ y < (succ.length : Int):=fun l q y n => by have:=zoa _ _ _ (u l q) y n; omega
  have hd : DInv succ (zt1 root):=⟨by simp [zt1,zke],zoT,fun X v => by
   have : zpf.getD X 0 = 0:=by
    have j : X < 64:=by omega
    have h : zpf[X]? = some 0:=by
     unfold zpf;rw [List.getElem?_replicate,if_pos j]
    rw [List.getD_eq_getElem?_getD,h];rfl
   simp only [zt1]
   omega,fun x t => by simp [zt1] at t; omega⟩
  obtain ⟨a,next',c,d,b,h⟩:=zGW succ pred s m.2 i k (zt1 root) [] 0 0 o (.agg [.f (.sl (succ.map rl)),.f (.sl (pred.map rl))]) (vI root) (vL []) vU vU (vB false) vU vU vU hd (by simp [zt1]; omega) (by simp [zt1]; omega) r
  have e1 : exec T (.scope zx) ⟨[.agg [.f (.sl (succ.map rl)),.f (.sl (pred.map rl))],vI root,.one (.ptr 0 0 0 0),vL [],vU,vU,vU,vU,vU,vU,vU,vU,vU,vU],[obG succ pred],0,0⟩ = some (.ret,⟨[vU,vU,vU,.one (.own 3 c 0 o.length),vU,vU,vU,vU,vU,vU,vU,vU,vU,vU],stO succ pred a next' c o.reverse d b,0,0⟩):=by
   rw [← h,zoK,zhH,zhH]
   congr 1
   rw [zrO,zdI,zhL];simp only [yg,zri];rw [zIS,zdI,zF8 succ pred m hm root p];simp only [yg,zri];rw [zEg succ pred root (by omega),zdI,zrW];rfl
  have g : (o.reverse.map zG).take o.length = o.reverse.map zG:=yb (by simp);simp -implicitDefEqProofs only [go_sem,obG,stO] at e1;simp -implicitDefEqProofs only [go_sem,zjS,e1,g,zf0]
def zIL : List C → Bool
 | [.f (.lit (.int .i64 k))] => decide (k = -2)
 | _ => false
def zFh (n : Nat) : Bool:=match zgi T (z6 T 3000) 230 [vL [[ei (-2)]],vI n] [] with
 | some (.one (.own 0 0 0 m),[.cells 0 1 rows]) => decide (m = n) && (decide (rows.length = n) && rows.all zIL)
 | _ => false
set_option maxRecDepth 100000 in
theorem zFZ : ((List.range 64).all fun n => zFh (n + 1)) = true:=by kernel_rfl
theorem zGC {r : List C} (h : zIL r = true) : r = zG (-2):=by
 unfold zIL at h;split at h
 ·simp only [decide_eq_true_eq] at h
  subst h;rfl
 ·cases h
theorem zwz (n : Nat) (e : 1 ≤ n) (d : n ≤ 64) : call T 230 [vL [[ei (-2)]],vI n] [] = some (.one (.own 0 0 0 n),[.cells 0 1 ((ya n (-2 : Int)).map zG)]):=by
 have h:=yq.1 zFZ (n - 1) (List.mem_range.2 (by omega));rw [show n - 1 + 1 = n by omega] at h;unfold zFh at h;split at h
 ·rename_i m rows he
  simp only [yd,decide_eq_true_eq,yq] at h;obtain ⟨rfl,c,a⟩:=h
  have : rows = (ya m (-2 : Int)).map zG:=by
   rw [yp];exact List.eq_replicate_iff.2 ⟨c,fun r b => zGC (a r b)⟩
  rw [← this];exact zlz he
 ·cases h
theorem zkR {n : Nat} {a : Int} (h : inR n a = true) : 0 ≤ a ∧ a < (n : Int) ∧ ¬ a < 0 ∧ ¬ (n : Int) ≤ a:=by
 simp only [inR,yd,decide_eq_true_eq] at h;omega
section
variable (t at' : List Int)
theorem zEn : ∀ (r : Nat) (a b c : Int) (a4 a5 a6 a7 : V),zq2 t at' r a b = some c →
  exec T zmC ⟨[vIs t,vIs at',vI a,vI b,a4,a5,a6,a7],[],0,0⟩ = some (.exit 2,⟨[vIs t,vIs at',vI c,vI b,vU,vU,vU,vU],[],0,0⟩):=by
 intro r
 induction r with
 | zero => intro a b c _ _ _ _ h; simp [zq2] at h
 | succ r ih =>
   intro a b c a4 a5 a6 a7 h;rw [zq2] at h;split at h
   ·rename_i e
    simp only [yd] at e;obtain ⟨o,p,n⟩:=e;obtain ⟨p1,p2,g,j⟩:=zkR o;obtain ⟨k,q,m,l⟩:=zkR p;obtain ⟨s1,s2,i,f⟩:=zkR n;rw [xl zmC rfl,zqk];split at h
    ·rename_i d
     have:=ih _ b c vU vU vU vU h;simp -implicitDefEqProofs only [go_sem] at this;simp -implicitDefEqProofs only [go_sem,p1,k,s1,zvt g j,zvt m l,zvt i f,d,this]
    ·rename_i d
     injection h with h;subst h;simp -implicitDefEqProofs only [go_sem,p1,k,s1,zvt g j,zvt m l,zvt i f,d]
   ·cases h
theorem zFd : ∀ (r : Nat) (a b c : Int) (a4 a5 a6 a7 : V),zq2 t at' r b a = some c →
  exec T zmA ⟨[vIs t,vIs at',vI a,vI b,a4,a5,a6,a7],[],0,0⟩ = some (.exit 4,⟨[vIs t,vIs at',vI a,vI c,vU,vU,vU,vU],[],0,0⟩):=by
 intro r
 induction r with
 | zero => intro a b c _ _ _ _ h; simp [zq2] at h
 | succ r ih =>
   intro a b c a4 a5 a6 a7 h;rw [zq2] at h;split at h
   ·rename_i e
    simp only [yd] at e;obtain ⟨o,p,n⟩:=e;obtain ⟨p1,p2,g,j⟩:=zkR o;obtain ⟨k,q,m,l⟩:=zkR p;obtain ⟨s1,s2,i,f⟩:=zkR n;rw [xl zmA rfl,zq3];split at h
    ·rename_i d
     have:=ih a _ c vU vU vU vU h;simp -implicitDefEqProofs only [go_sem] at this;simp -implicitDefEqProofs only [go_sem,p1,k,s1,zvt g j,zvt m l,zvt i f,d,this]
    ·rename_i d
     injection h with h;subst h;simp -implicitDefEqProofs only [go_sem,p1,k,s1,zvt g j,zvt m l,zvt i f,d]
   ·cases h
theorem zFC (K : Nat) : ∀ (r : Nat) (a b c : Int) (a4 a5 a6 a7 : V),zuN t at' K r a b = some c →
  exec T zmN ⟨[vIs t,vIs at',vI a,vI b,a4,a5,a6,a7],[],0,0⟩ = some (.exit 0,⟨[vU,vU,vI c,vU,vU,vU,vU,vU],[],0,0⟩):=by
 intro r
 induction r with
 | zero => intro a b c _ _ _ _ h; simp [zuN] at h
 | succ r ih =>
   intro a b c a4 a5 a6 a7 h;rw [zuN] at h;rw [xl zmN rfl,zqe];split at h
   ·rename_i d
    injection h with h;subst h;subst d;simp -implicitDefEqProofs only [go_sem]
   ·rename_i d
    split at h
    ·cases h
    ·rename_i e g
     split at h
     ·cases h
     ·rename_i f i
      have e1:=fun a4 a5 a6 a7 => zEn t at' K a b e a4 a5 a6 a7 g;have e2:=fun a4 a5 a6 a7 => zFd t at' K e b f a4 a5 a6 a7 i;have:=ih e f c vU vU vU vU h;simp -implicitDefEqProofs only [go_sem] at e1 e2 this;simp -implicitDefEqProofs only [go_sem,d,e1,e2,this]
theorem zAX (K r : Nat) (a b c : Int) (h : zuN t at' K r a b = some c) : call T 231 [vIs t,vIs at',vI a,vI b] [] = some (vI c,[]):=by
 rw [ze (fn:=zn7) rfl];have:=fun a4 a5 a6 a7 => zFC t at' K r a b c a4 a5 a6 a7 h;simp -implicitDefEqProofs only [go_sem] at this;simp -implicitDefEqProofs only [go_sem,zn7,this]
end
theorem zvP {t : List Int} {a : Int} (b : ¬ a < 0) (c : ¬ (t.length : Int) ≤ a) : (t.map zG)[a.toNat]? = some [.f (.lit (.int .i64 (tr t a)))]:=by
 have : a.toNat < t.length:=by omega
 simp [tr,this,zG]
section
variable (succ pred : List (List Int)) (hpl : pred.length = succ.length) (hps : ∀ l ∈ pred,l.length ≤ 4294967296) (n : Nat) (hn : n = succ.length) (hn64 : n ≤ 64) (root : Int) (order tail at' : List Int) (hat : at'.length = n) (htl : tail.length ≤ 4294967296)
abbrev stT (succ pred : List (List Int)) (t at' : List Int) : zd:=[obG succ pred,.cells 0 1 (t.map zG),.cells 0 1 (at'.map zG)]
include hpl hps hn hn64 hat htl
theorem zFA (K : Nat) (t : List Int) (D : t.length = n) (x : Int) (z : Int) (a : List Int) (f : a.length ≤ 4294967296) : ∀ (d k : Nat) (b c : Int) (a0 a3 a5 a8 a9 i l r p q g o a25 a26 a27 a28 : V),a.length - k = d → k ≤ a.length → znC t at' K (a.drop k) b = some c →
  exec T zjB ⟨[a0,vI root,.one (.ptr 0 0 0 0),a3,vIs order,a5,.one (.own 1 0 0 n),.one (.own 2 0 0 n),a8,a9,vI x,vI b,i,l,r,p,q,g,vIs tail,vI tail.length,vI z,o,vIs a,vI a.length,vI k,a25,a26,a27,a28],stT succ pred t at',0,0⟩ =
   some (.exit 4,⟨[vU,vI root,.one (.ptr 0 0 0 0),vU,vIs order,vU,.one (.own 1 0 0 n),.one (.own 2 0 0 n),vU,vU,vI x,vI c,vU,vU,vU,vU,vU,vU,vIs tail,vI tail.length,vI z,vU,vU,vU,vU,vU,vU,vU,vU],stT succ pred t at',0,0⟩):=by
 intro d;have w : (t.map zG).take n = t.map zG:=yb (by simp; omega);have s : (at'.map zG).take n = at'.map zG:=yb (by simp; omega)
 induction d with
 | zero =>
   intro k b c a0 a3 a5 a8 a9 i l r p q g o a25 a26 a27 a28 B C h;have e : k = a.length:=(by omega);subst e;rw [ym] at h;simp only [znC,Option.some.injEq] at h;subst h;rw [xl zjB rfl,zmQ];simp -implicitDefEqProofs only [go_sem,stT,obG,yo]
 | succ d ih =>
   intro k b c a0 a3 a5 a8 a9 i l r p q g o a25 a26 a27 a28 B C h;have e : k < a.length:=(by omega);have hd : a.drop k = a[k] :: a.drop (k + 1):=yf e;rw [hd,znC] at h;split at h
   ·rename_i A
    obtain ⟨p1,p2,u,v⟩:=zkR A;have j : a[k] < (n : Int):=(by omega);rw [xl zjB rfl,zmQ];split at h
    ·rename_i c1
     have:=ih (k + 1) b c vU vU vU vU vU vU vU vU vU vU vU vU vU vU vU vU (by omega) (by omega) h;simp -implicitDefEqProofs only [go_sem,stT,obG] at this;simp -implicitDefEqProofs only [go_sem,stT,obG,ilt e,zy e,ri,p1,j,zvP u v,c1,za e f,this]
    ·rename_i c1
     split at h
     ·rename_i c2
      subst c2;have:=ih (k + 1) a[k] c vU vU vU vU vU vU vU vU vU vU vU vU vU vU vU vU (by omega) (by omega) h;simp -implicitDefEqProofs only [go_sem,stT,obG] at this;simp -implicitDefEqProofs only [go_sem,stT,obG,ilt e,zy e,ri,p1,j,zvP u v,c1,za e f,this]
     ·rename_i c2
      split at h
      ·cases h
      ·rename_i m hm
       have y:=zAX t at' K K b a[k] m hm;have:=ih (k + 1) m c vU vU vU vU vU vU vU vU vU vU vU vU vU vU vU vU (by omega) (by omega) h;simp -implicitDefEqProofs only [go_sem,stT,obG] at this y;simp -implicitDefEqProofs only [go_sem,stT,obG,ilt e,zy e,ri,p1,j,zvP u v,c1,c2,w,s,zf0,y,za e f,this]
   ·cases h
theorem zGk (K : Nat) (t : List Int) (A : t.length = n) : ∀ (d k : Nat) (res : Option (Int × Int)) (a0 a3 a5 a8 a9 r q c e m i j a g a22 a23 a24 a25 a26 a27 a28 : V),tail.length - k = d → k ≤ tail.length → ztl pred t at' K (tail.drop k) = some res →
  exec T zji ⟨[a0,vI root,.one (.ptr 0 0 0 0),a3,vIs order,a5,.one (.own 1 0 0 n),.one (.own 2 0 0 n),a8,a9,r,q,c,e,m,i,j,a,vIs tail,vI tail.length,vI k,g,a22,a23,a24,a25,a26,a27,a28],stT succ pred t at',0,0⟩ =
   some (match res with
    | none => (.exit 2,⟨[vU,vI root,vU,vU,vU,vU,.one (.own 1 0 0 n),vU,vU,vU,vU,vU,vU,vU,vU,vU,vU,vU,vU,vU,vU,vU,vU,vU,vU,vU,vU,vU,vU],stT succ pred t at',0,0⟩)
    | some (x,b) => (.goto 0,⟨[vU,vI root,.one (.ptr 0 0 0 0),vU,vIs order,vU,.one (.own 1 0 0 n),.one (.own 2 0 0 n),vU,vU,vU,vU,vU,vU,vU,vU,vU,vU,vU,vU,vU,vU,vU,vU,vU,vU,vU,vU,vU],stT succ pred (t.set x.toNat b) at',0,0⟩)):=by
 intro d
 induction d with
 | zero =>
   intro k res a0 a3 a5 a8 a9 r q c e m i j a g a22 a23 a24 a25 a26 a27 a28 D E h;have p : k = tail.length:=(by omega);subst p;rw [ym] at h;simp only [ztl,Option.some.injEq] at h;subst h;rw [xl zji rfl,zmR];simp -implicitDefEqProofs only [go_sem,stT,obG,yo]
 | succ d ih =>
   intro k res a0 a3 a5 a8 a9 r q c e m i j a g a22 a23 a24 a25 a26 a27 a28 D E h;have p : k < tail.length:=(by omega);have hd : tail.drop k = tail[k] :: tail.drop (k + 1):=yf p;rw [hd,ztl] at h;split at h
   ·rename_i z
    obtain ⟨p1,p2,w,y⟩:=zkR z;have s : tail[k] < (n : Int):=(by omega);have o : tail[k].toNat < pred.length:=(by omega);have v : pred.getD tail[k].toNat [] = pred[tail[k].toNat]:=(by simp [o]);rw [v] at h;split at h
    ·cases h
    ·rename_i b B
     have l:=fun a0 a3 a5 a8 a9 c e m i j a g a25 a26 a27 a28 => zFA succ pred hpl hps n hn hn64 root order tail at' hat htl K t A tail[k] k pred[tail[k].toNat] (hps _ (yr o)) _ 0 (-2) b a0 a3 a5 a8 a9 c e m i j a g a25 a26 a27 a28 rfl (yv _) B;rw [xl zji rfl,zmR];simp only [yk] at l;split at h
     ·rename_i c1
      have:=ih (k + 1) res vU vU vU vU vU vU vU vU vU vU vU vU vU vU vU vU vU vU vU vU vU (by omega) (by omega) h;simp -implicitDefEqProofs only [go_sem,stT,obG] at this l;simp -implicitDefEqProofs only [go_sem,stT,obG,ilt p,zy p,zy o,ri,rl,p1,s,l,zvP w y,c1,za p htl,this]
     ·rename_i c1
      injection h with h;subst h;have u : (t.map zG).set tail[k].toNat [C.f (.lit (.int .i64 b))] = (t.set tail[k].toNat b).map zG:=(by rw [yl]; rfl);simp -implicitDefEqProofs only [go_sem,stT,obG] at l;simp -implicitDefEqProofs only [go_sem,stT,obG,ilt p,zy p,zy o,ri,rl,p1,s,l,zvP w y,c1,u]
   ·cases h
end
def znD : Go.A.Code:=zat.p2.p2.p2.p2.p2.p2.p2
theorem zA2 : zmg = .seq .skip znD:=rfl
section
variable (succ pred : List (List Int)) (hpl : pred.length = succ.length) (hps : ∀ l ∈ pred,l.length ≤ 4294967296) (n : Nat) (hn : n = succ.length) (hn64 : n ≤ 64) (root : Nat) (hroot : root < n) (tail : List Int) (htl : tail.length ≤ 4294967295)
include hpl hps hn hn64
theorem zGv (order : List Int) (p : order.length ≤ 4294967296) (s : ∀ x ∈ order,0 ≤ x ∧ x < (n : Int)) (t : List Int) : ∀ (d k : Nat) (at' : List Int) (a0 a3 a5 a8 a9 m i c g b l e a20 j a22 a23 a24 a25 a26 a27 a28 : V),at'.length = n → order.length - k = d → k ≤ order.length →
  exec T zjz ⟨[a0,vI root,.one (.ptr 0 0 0 0),a3,vIs order,a5,.one (.own 1 0 0 n),.one (.own 2 0 0 n),a8,a9,m,i,c,g,vIs order,vI order.length,vI k,b,l,e,a20,j,a22,a23,a24,a25,a26,a27,a28],stT succ pred t at',0,0⟩ =
   some (.exit 0,⟨[vU,vI root,.one (.ptr 0 0 0 0),vU,vIs order,vU,.one (.own 1 0 0 n),.one (.own 2 0 0 n),vU,vU,vU,vU,vU,vU,vU,vU,vU,vU,vU,vU,vU,vU,vU,vU,vU,vU,vU,vU,vU],stT succ pred t (zkW k (order.drop k) at'),0,0⟩):=by
 intro d
 induction d with
 | zero =>
   intro k at' a0 a3 a5 a8 a9 m i c g b l e a20 j a22 a23 a24 a25 a26 a27 a28 q u v;have h : k = order.length:=(by omega);subst h;rw [xl zjz rfl,zmv];simp -implicitDefEqProofs only [go_sem,stT,obG,yo,ym,zkW]
 | succ d ih =>
   intro k at' a0 a3 a5 a8 a9 m i c g b l e a20 j a22 a23 a24 a25 a26 a27 a28 q u v;have h : k < order.length:=(by omega);have hd : order.drop k = order[k] :: order.drop (k + 1):=yf h;obtain ⟨p1,p2⟩:=s _ (yr h);have r:=zvP (t:=at') (a:=order[k]) (by omega) (by omega);have o : (at'.map zG).set order[k].toNat [C.f (.lit (.int .i64 (k : Int)))] = (at'.set order[k].toNat (k : Int)).map zG:=(by rw [yl]; rfl);have:=ih (k + 1) (at'.set order[k].toNat (k : Int)) vU vU vU vU vU vU vU vU vU vU vU vU vU vU vU vU vU vU vU vU vU (by simpa using q) (by omega) (by omega);rw [xl zjz rfl,zmv,hd,zkW];simp -implicitDefEqProofs only [go_sem,stT,obG] at this;simp -implicitDefEqProofs only [go_sem,stT,obG,ilt h,zy h,ri,p1,p2,r,o,za h p,this]
include hroot htl
theorem zrF (K : Nat) (at' : List Int) (s : at'.length = n) (t : List Int) (y : t.length = n) (o0 : Int) (res : Option (Int × Int)) (h : ztl pred t at' K tail = some res)
  (a0 a3 a5 a8 a9 l g d e m j k c u r a20 i a22 a23 a24 a25 a26 a27 a28 : V) :
  exec T znD ⟨[a0,vI root,.one (.ptr 0 0 0 0),a3,vIs (o0 :: tail),a5,.one (.own 1 0 0 n),.one (.own 2 0 0 n),a8,a9,l,g,d,e,m,j,k,c,u,r,a20,i,a22,a23,a24,a25,a26,a27,a28],stT succ pred t at',0,0⟩ =
   some (match res with
    | none => (.ret,⟨[vU,vU,vU,.one (.own 1 0 0 n),vU,vU,vU,vU,vU,vU,vU,vU,vU,vU,vU,vU,vU,vU,vU,vU,vU,vU,vU,vU,vU,vU,vU,vU,vU],stT succ pred (t.set root (-1)) at',0,0⟩)
    | some (x,b) => (.goto 0,⟨[vU,vI root,.one (.ptr 0 0 0 0),vU,vIs (o0 :: tail),vU,.one (.own 1 0 0 n),.one (.own 2 0 0 n),vU,vU,vU,vU,vU,vU,vU,vU,vU,vU,vU,vU,vU,vU,vU,vU,vU,vU,vU,vU,vU],stT succ pred (t.set x.toNat b) at',0,0⟩)):=by
 have o:=fun a0 a3 a5 a8 a9 l g d e m j k c i a22 a23 a24 a25 a26 a27 a28 => zGk succ pred hpl hps n hn hn64 root (o0 :: tail) tail at' s (by omega) K t y tail.length 0 res a0 a3 a5 a8 a9 l g d e m j k c i a22 a23 a24 a25 a26 a27 a28 (by omega) (by omega) h;simp only [yk] at o;have q : (ri o0).length = 1:=rfl;have e1 : (ri o0 :: tail.map ri).take (tail.length + 1) = ri o0 :: tail.map ri:=yb (by simp);have e2 : (1 ≤ tail.length + 1) = True:=by simp
 have v : ((root : Int) < (n : Int)) = True:=by simp; omega
 have p : (t.map zG).set root [C.f (.lit (.int .i64 (-1)))] = (t.set root (-1)).map zG:=by rw [yl]; rfl
 have w:=zvP (t:=t) (a:=(root : Int)) (by omega) (by omega);rw [yh] at w
 cases res with
 | none =>
   simp -implicitDefEqProofs only [go_sem,stT,obG] at o;simp -implicitDefEqProofs only [go_sem,stT,obG,znD,zat,Code.p2,ys,q,zv0,e1,e2,o,v,yj,yh,w,p]
 | some xb =>
   obtain ⟨x,b⟩:=xb;simp -implicitDefEqProofs only [go_sem,stT,obG] at o;simp -implicitDefEqProofs only [go_sem,stT,obG,znD,zat,Code.p2,ys,q,zv0,e1,e2,o]
theorem zDC (K : Nat) (at' : List Int) (e : at'.length = n) (o0 : Int) : ∀ (r : Nat) (t p : List Int) (a0 a3 a5 a8 a9 m g c f o j k a l d a20 i a22 a23 a24 a25 a26 a27 a28 : V),t.length = n → zhS pred at' K tail r t = some p →
  exec T (.sc zat zmg) ⟨[a0,vI root,.one (.ptr 0 0 0 0),a3,vIs (o0 :: tail),a5,.one (.own 1 0 0 n),.one (.own 2 0 0 n),a8,a9,m,g,c,f,o,j,k,a,l,d,a20,i,a22,a23,a24,a25,a26,a27,a28],stT succ pred t at',0,0⟩ =
   some (.ret,⟨[vU,vU,vU,.one (.own 1 0 0 n),vU,vU,vU,vU,vU,vU,vU,vU,vU,vU,vU,vU,vU,vU,vU,vU,vU,vU,vU,vU,vU,vU,vU,vU,vU],stT succ pred (p.set root (-1)) at',0,0⟩):=by
 intro r
 induction r with
 | zero => intro t p _ _ _ _ _ _ _ _ _ _ _ _ _ _ _ _ _ _ _ _ _ _ _ _ _ h; simp [zhS] at h
 | succ r ih =>
   intro t p a0 a3 a5 a8 a9 m g c f o j k a l d a20 i a22 a23 a24 a25 a26 a27 a28 q h;rw [zhS] at h;rw [zhH,zA2,zdI,zhL];simp only [yg,zri];split at h
   ·cases h
   ·rename_i s
    injection h with h;subst h;rw [zrF succ pred hpl hps n hn hn64 root hroot tail htl K at' e t q o0 none s];simp only [yg,scK]
   ·rename_i x b s
    rw [zrF succ pred hpl hps n hn hn64 root hroot tail htl K at' e t q o0 (some (x,b)) s];simp only [yg,scK,zrx];exact ih _ _ _ _ _ _ _ _ _ _ _ _ _ _ _ _ _ _ _ _ _ _ _ _ _ _ (by simpa using q) h
end
def zIj : Go.A.Code:=zat.p1
def zHr : Go.A.Code:=zat.p2.p1
def zH4 : Go.A.Code:=zat.p2.p2.p1
def zHs : Go.A.Code:=zat.p2.p2.p2.p1
def zHh : Go.A.Code:=zat.p2.p2.p2.p2.p1
def zHR : Go.A.Code:=zat.p2.p2.p2.p2.p2.p1
theorem zIW : zat = .seq zIj (.seq zHr (.seq zH4 (.seq zHs (.seq zHh (.seq zHR (.seq (.label 0) znD)))))):=rfl
theorem zAM (succ pred : List (List Int)) (Q : zlg succ) (hm : zDb succ pred = true) (root : Nat) (A : root < succ.length) (k : Nat) (U : k ≤ 4294967295) (o : List Int) (V : dfs succ k (zt1 root) = some o)
  (o0 : Int) (tail : List Int) (a : o.reverse = o0 :: tail) (N : ∀ x ∈ o,0 ≤ x ∧ x < (succ.length : Int)) (S : o.length ≤ 4294967295) (K r : Nat) (t : List Int) (G : zhS pred (at0 succ.length o.reverse) K tail r (zlL succ.length root) = some t) :
  call T 195 [.agg [.f (.sl (succ.map rl)),.f (.sl (pred.map rl))],vI root] [] = some (vIs (t.set root (-1)),[]):=by
 rw [ze (fn:=zn1) rfl];have b : zbH succ = true ∧ zZ succ = pred:=by simpa [zDb] using hm
 obtain ⟨W,L,Y⟩:=zgW b.1;have hpl : pred.length = succ.length:=by rw [← b.2,zcu]
 have hps : ∀ l ∈ pred,l.length ≤ 4294967296:=by rw [← b.2]; exact zla succ Q (zhA b.1)
 have w:=zzS succ pred Q hm root A k U o V;have P:=zwz succ.length W L
 have htl : tail.length ≤ 4294967295:=by
  have : o.reverse.length = tail.length + 1:=by rw [a]; rfl
  rw [List.length_reverse] at this;omega
 have z:=fun a0 a3 a5 a8 a9 q m g j e p i a20 n a22 a23 a24 a25 a26 a27 a28 => zGv succ pred hpl hps succ.length rfl L root (o0 :: tail) (by simp only [yi]; omega) (fun x X => N x (List.mem_reverse.1 (by rw [a]; exact X))) (ya succ.length (-2)) (o0 :: tail).length 0 (ya succ.length 0) a0 a3 a5 a8 a9 q m g j e p i a20 n a22 a23 a24 a25 a26 a27 a28 (by simp) rfl (yv _);simp only [List.drop_zero,yk] at z;rw [a] at w G;have M : ((root : Int) < (succ.length : Int)) = True:=by simp; omega
 have v : ((ya succ.length (-2 : Int)).map zG).set root [C.f (.lit (.int .i64 (root : Int)))] = (zlL succ.length root).map zG:=by rw [zlL,yl]; rfl
 have d : ((ya succ.length (-2 : Int)).map zG)[root]? = some [.f (.lit (.int .i64 (-2)))]:=by simp [A,zG]
 have D : (at0 succ.length (o0 :: tail)).length = succ.length:=by rw [at0,zjl]; simp
 have u : (succ.length : Int) ≤ (LIM : Int):=by unfold LIM; omega
 have R : ya succ.length [C.f (.lit (.int .i64 0))] = (ya succ.length (0 : Int)).map zG:=by rw [yp]; rfl
 have B : ¬ ((tail.length + 1 : Nat) : Int) = 0:=by omega
 have e1 : exec T (.scope zat) ⟨[.agg [.f (.sl (succ.map rl)),.f (.sl (pred.map rl))],vI root,.one (.ptr 0 0 0 0),vL [],vU,vU,vU,vU,vU,vU,vU,vU,vU,vU,vU,vU,vU,vU,vU,vU,vU,vU,vU,vU,vU,vU,vU,vU,vU],[obG succ pred],0,0⟩ = some (.ret,⟨[vU,vU,vU,.one (.own 1 0 0 succ.length),vU,vU,vU,vU,vU,vU,vU,vU,vU,vU,vU,vU,vU,vU,vU,vU,vU,vU,vU,vU,vU,vU,vU,vU,vU],stT succ pred (t.set root (-1)) (at0 succ.length (o0 :: tail)),0,0⟩):=by
  have h:=fun a0 a3 a5 a8 a9 q m g j O H I e p i a20 n a22 a23 a24 a25 a26 a27 a28 => zDC succ pred hpl hps succ.length rfl L root A tail htl K (at0 succ.length (o0 :: tail)) D o0 r (zlL succ.length root) t a0 a3 a5 a8 a9 q m g j O H I e p i a20 n a22 a23 a24 a25 a26 a27 a28 (by simp [zlL]) G;rw [← h vU vU vU vU vU vU vU vU vU vU vU vU vU vU vU vU vU vU vU vU vU vU vU vU];rw [zoK,zhH,zhH]
  congr 1
  rw [zA2,zdI,zhL];simp only [yg,zri];rw [zIW];have y : zHs = .regd [] [⟨.loc,.bsl .fz 1 [[.f (.lit (.int .i64 0))]] [(0,.c (vI (-2)))],none⟩,⟨.loc,.mv (.s 5),none⟩,⟨.loc,.call .ck (.c (.one (.fn 230 [] []))) [.l 1,.l 0],none⟩,⟨.loc,.mv (.s 5),none⟩,⟨.loc,.mks [.f (.lit (.int .i64 0))] none (.l 0),none⟩,⟨.slot 6,.mv (.l 2),none⟩,⟨.slot 7,.mv (.l 1),none⟩]:=rfl
  have E : (yw zG (ya succ.length (-2 : Int))).map (C.shifts 1) = yw zG (ya succ.length (-2 : Int)):=by
   rw [List.map_map];rfl
  simp -implicitDefEqProofs only [go_sem,obG,stT] at w P z;simp -implicitDefEqProofs only [go_sem,obG,stT,zIj,zHr,zH4,y,zHh,zHR,zat,Code.p1,Code.p2,w,P,B,u,yj,yh,R,E,z,M,d,v];rfl
 have J : ((t.set root (-1)).map zG).take succ.length = (t.set root (-1)).map zG:=yb (by have:=zlX G; simp [zlL] at this; simp; omega);simp -implicitDefEqProofs only [go_sem,obG,stT] at e1;simp -implicitDefEqProofs only [go_sem,zn1,e1,J,zf0]
open Dm
theorem zuV {α : Type} (k a : Int) (v : α) : ∀ D : List (Int × α),getM k (zkc a v D) = if a = k then some v else getM k D
 | [] => by by_cases c : a = k <;> simp [zkc,getM,c]
 | e :: D => by
   rw [zkc]
   by_cases c : e.1 = a
   ·rw [if_pos c,getM,getM]
    by_cases d : a = k
    ·rw [if_pos d,if_pos d]
    ·rw [if_neg d,if_neg d,if_neg (fun h => d (c.symm.trans h))]
   ·rw [if_neg c,getM,getM,zuV k a v D]
    by_cases d : e.1 = k
    ·rw [if_pos d,if_pos d,if_neg (fun h => c (d.trans h.symm))]
    ·rw [if_neg d,if_neg d]
def toP (u : Use) : PDef:=⟨u.block,u.at',u.shape⟩
def lk (ds : List Use) (v : Int) : Option PDef:=(ds.find? fun u => decide (u.v = v)).map toP
def Rep (D : ziR) (ds : List Use) : Prop:=∀ v,getM v D = lk ds v
theorem zHP (ds : List Use) (u : Use) (v : Int) : lk (ds ++ [u]) v = if (lk ds v).isSome = true then lk ds v else if u.v = v then some (toP u) else none:=by
 unfold lk;rw [List.find?_append]
 cases h : ds.find? (fun u => decide (u.v = v)) with
 | some x => simp
 | none =>
   by_cases c : u.v = v
   ·simp [c]
   ·simp [c]
theorem zwO {D : ziR} {ds : List Use} (R : Rep D ds) (u : Use) (h : (lk ds u.v).isNone = true) : Rep (zkc u.v (toP u) D) (ds ++ [u]):=by
 intro v;rw [zuV,zHP,R v]
 by_cases c : u.v = v
 ·subst c
  have : (lk ds u.v).isSome = false:=by
   cases e : lk ds u.v
   ·rfl
   ·rw [e] at h; cases h
  rw [if_pos rfl,this,if_neg (by simp),if_pos rfl]
 ·rw [if_neg c,if_neg c]
  cases e : lk ds v <;> simp
def zha : List Use → List Use → Bool
 | _,[] => true
 | pre,u :: r => (value u.v && (lk pre u.v).isNone) && zha (pre ++ [u]) r
theorem znf : ∀ (a b pre : List Use),zha pre (a ++ b) = (zha pre a && zha (pre ++ a) b)
 | [],b,pre => by rw [yn,List.append_nil,zha,yu]
 | u :: a,b,pre => by
   rw [yt,zha,zha,znf a b];simp only [Bool.and_assoc,yc,ye]
theorem zod {ds : List Use} {v : Int} : (lk ds v).isNone = true ↔ ∀ u ∈ ds,u.v ≠ v:=by
 unfold lk;rw [Option.isNone_map,Option.isNone_iff_eq_none,List.find?_eq_none];simp
theorem zxm (v : Int) : ∀ (pre : List Use) (u : Use) (r : List Use) (k : Nat),u.v = v → (zl v k (pre ++ u :: r) = ((k + pre.length : Nat) : Int) ↔ ∀ x ∈ pre,x.v ≠ v)
 | [],u,r,k,h => by simp [zl,h]
 | x :: pre,u,r,k,h => by
   rw [yt,zl]
   by_cases c : x.v = v
   ·rw [if_pos c]
    constructor
    ·intro e
     simp only [yi] at e;omega
    ·intro e
     exact absurd c (e x List.mem_cons_self)
   ·rw [if_neg c]
    have b:=zxm v pre u r (k + 1) h;rw [show k + 1 + pre.length = k + (x :: pre).length by simp only [yi]; omega] at b;rw [b];constructor
    ·intro e y a
     rcases List.mem_cons.1 a with rfl | a
     ·exact c
     ·exact e y a
    ·exact fun e y a => e y (List.mem_cons_of_mem _ a)
theorem zqM (defs : List Use) : ∀ (r pre : List Use),defs = pre ++ r → zfE defs pre.length r = zha pre r
 | [],_,_ => rfl
 | u :: r,pre,h => by
   have b:=zqM defs r (pre ++ [u]) (by rw [h]; simp);rw [List.length_append,List.length_singleton] at b;rw [zfE,zha,b]
   congr 2
   have a:=zxm u.v pre u r 0 rfl;rw [← h,Nat.zero_add] at a;rw [Bool.eq_iff_iff,decide_eq_true_eq,a,zod]
theorem zno {v : Int} : value v = true ↔ ¬ (v < 1 ∨ 1023 < v):=by
 unfold value;rw [yd,decide_eq_true_eq,decide_eq_true_eq];omega
theorem zst : ∀ (l : List Int) (k : Nat) (D : ziR) (pre : List Use),Rep D pre → (∀ u ∈ pre,u.v ≤ (k : Int)) → k + l.length ≤ 16 → Rep (zdN k D l) (pre ++ zaJ k l) ∧ zha pre (zaJ k l) = true
 | [],k,D,pre,R,_,_ => by simpa [zdN,zaJ,zha] using R
 | b :: l,k,D,pre,R,hp,hl => by
   have a : (lk pre ((k : Int) + 1)).isNone = true:=zod.2 fun u hu => by have:=hp u hu; omega
   simp only [yi] at hl
   obtain ⟨c,e⟩:=zst l (k + 1) (zkc ((k : Int) + 1) ⟨-1,0,(b,1)⟩ D) (pre ++ [(⟨(k : Int) + 1,(b,1),-1,0⟩ : Use)]) (zwO R (⟨(k : Int) + 1,(b,1),-1,0⟩ : Use) a) (fun u hu => by
    rcases List.mem_append.1 hu with hu | hu
    ·have:=hp u hu; omega
    ·rw [List.mem_singleton.1 hu]; show (k : Int) + 1 ≤ _; omega) (by omega)
   rw [zdN,zaJ,zha,e];rw [yc,ye] at c;refine ⟨c,?_⟩;have d : value ((k : Int) + 1) = true:=zno.2 (by omega);simp only [d,a,Bool.and_true]
theorem zxr (i : Int) : ∀ (l : List PPhi) (D : ziR) (pre : List Use),Rep D pre → ((zgu i D l).2.isNone = zha pre (zcZ i l)) ∧ (zha pre (zcZ i l) = true → Rep (zgu i D l).1 (pre ++ zcZ i l))
 | [],D,pre,R => ⟨rfl,fun _ => by simpa [zgu,zcZ] using R⟩
 | p :: l,D,pre,R => by
   have e : zcZ i (p :: l) = ⟨p.dst,(p.bits,1),i,-1⟩ :: zcZ i l:=rfl;rw [zgu,e,zha]
   by_cases c : p.dst < 1 ∨ 1023 < p.dst
   ·have a : value p.dst = false:=by
     cases h : value p.dst
     ·rfl
     ·exact absurd c (zno.1 h)
    rw [if_pos c,a];exact ⟨rfl,fun h => by simp at h⟩
   ·have a : value p.dst = true:=zno.2 c
    rw [if_neg c,a,R p.dst];cases f : (lk pre p.dst).isNone
    ·rw [if_neg (by simp)]
     exact ⟨rfl,fun h => by simp at h⟩
    ·rw [if_pos rfl]
     have d : Rep (zkc p.dst ⟨i,-1,(p.bits,1)⟩ D) (pre ++ [(⟨p.dst,(p.bits,1),i,-1⟩ : Use)]):=zwO R (⟨p.dst,(p.bits,1),i,-1⟩ : Use) f;obtain ⟨g,b⟩:=zxr i l _ _ d;rw [yc,ye] at b;exact ⟨by simpa using g,fun h => b (by simpa using h)⟩
theorem zw1 {o : POp} (h : 0 < (zad o).1) : value o.dst = true:=by
 unfold zad at h;split at h
 ·simp at h
 ·rename_i c
  have hm : zgh o = true:=by
   cases e : zgh o
   ·exact absurd (.inl e) c
   ·rfl
  have a : zfx o.kind = false:=by
   cases e : zfx o.kind
   ·rfl
   ·exact absurd (.inr e) c
  unfold zgh at hm;simp only [yd] at hm;have:=hm.2.2.1;rw [a] at this;simpa using this
theorem zw2 (i : Int) : ∀ (l : List POp) (k : Nat) (D : ziR) (pre : List Use),Rep D pre → ((zir i k D l).2.isNone = zha pre (zdP i k l)) ∧ (zha pre (zdP i k l) = true → Rep (zir i k D l).1 (pre ++ zdP i k l))
 | [],k,D,pre,R => ⟨rfl,fun _ => by simpa [zir,zdP] using R⟩
 | o :: l,k,D,pre,R => by
   rw [zir,zdP]
   by_cases c : (zad o).1 ≤ 0
   ·rw [if_pos c,if_neg (show ¬ 0 < (zad o).1 by omega)]
    exact zw2 i l (k + 1) D pre R
   ·rw [if_neg c,if_pos (show 0 < (zad o).1 by omega),zha,zw1 (o:=o) (by omega),R o.dst]
    cases d : (lk pre o.dst).isNone
    ·rw [if_neg (by simp)]
     exact ⟨rfl,fun h => by simp at h⟩
    ·rw [if_pos rfl]
     have b : Rep (zkc o.dst ⟨i,(k : Int),zad o⟩ D) (pre ++ [(⟨o.dst,zad o,i,(k : Int)⟩ : Use)]):=zwO R (⟨o.dst,zad o,i,(k : Int)⟩ : Use) d;obtain ⟨e,a⟩:=zw2 i l (k + 1) _ _ b;rw [yc,ye] at a;exact ⟨by simpa using e,fun h => a (by simpa using h)⟩
theorem zrV : ∀ (l : List PBlock) (k : Nat) (D : ziR) (pre : List Use),Rep D pre → ((zdj k D l).2.isNone = zha pre (zaa k l)) ∧ (zha pre (zaa k l) = true → Rep (zdj k D l).1 (pre ++ zaa k l))
 | [],k,D,pre,R => ⟨rfl,fun _ => by simpa [zdj,zaa] using R⟩
 | b :: l,k,D,pre,R => by
   obtain ⟨p1,p2⟩:=zxr (k : Int) b.phis D pre R;rw [zdj,zaa,znf,znf]
   cases f : zgu (k : Int) D b.phis with
   | mk D1 q =>
     rw [f] at p1 p2
     cases q with
     | some x =>
       rw [← p1];exact ⟨rfl,fun h => by simp at h⟩
     | none =>
       rw [← p1];have d:=p2 (by rw [← p1]; rfl);simp only at d;obtain ⟨a,c⟩:=zw2 (k : Int) b.ops 0 D1 _ d;simp only
       cases g : zir (k : Int) 0 D1 b.ops with
       | mk D2 q2 =>
         rw [g] at a c
         cases q2 with
         | some x =>
           rw [← a];exact ⟨rfl,fun h => by simp at h⟩
         | none =>
           rw [← a];have e:=c (by rw [← a]; rfl);obtain ⟨b1,b2⟩:=zrV l (k + 1) D2 _ e;rw [yc] at b1 b2;simp only [yc] at b1 b2;refine ⟨by simpa using b1,fun h => ?_⟩;have:=b2 (by simpa using h);simpa [yc] using this
theorem zxa {f : PFunc} (h : f.params.length ≤ 16) : ((zmt f).2.isNone = zfE (zt f) 0 (zt f)) ∧ (zfE (zt f) 0 (zt f) = true → Rep (zmt f).1 (zt f)):=by
 have e:=zqM (zt f) (zt f) [] (by simp);rw [List.length_nil] at e;have b : Rep [] []:=fun v => rfl;obtain ⟨a,c⟩:=zst f.params 0 [] [] b (by simp) (by omega);rw [yn] at a;obtain ⟨b1,b2⟩:=zrV f.blocks 0 _ _ a
 have ea : zha [] (zt f) = zha (zaJ 0 f.params) (zaa 0 f.blocks):=by
  unfold zt;rw [znf,c,yu,yn]
 rw [e,ea];exact ⟨b1,b2⟩
end AC
