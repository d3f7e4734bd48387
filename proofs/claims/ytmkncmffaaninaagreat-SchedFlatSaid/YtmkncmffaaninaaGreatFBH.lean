/- A part of the proof of SchedFlat. Conditions: none. -/
import Derived.Test.YtmkncmffaaninaaGreatFBG
import Derived.Test.YtmkncmffaaninaaGreatFBF
set_option linter.all false
open List renaming replicate → ya,take_of_length_le → yb,append_assoc → yc,singleton_append → ye,drop_eq_getElem_cons → yf,length_cons → yi,map_set → yl,drop_length → ym,nil_append → yn,map_replicate → yp,all_eq_true → yq,getElem_mem → yr,cons_append → yt,map → yw
open Bool renaming and_eq_true → yd,true_and → yu
open Option renaming bind_some → yg
open Int renaming toNat_natCast → yh,natCast_nonneg → yj,natCast_zero → yk,lt_irrefl → yo,reduceToNat → ys
open Nat renaming zero_le → yv
namespace AC
open Go Go.A Go.A.Lex
@[go_sem] theorem zqs (succ pred : List (List Int)) (a : zjV succ) : call T 148 [.agg [.f (.sl (succ.map rl)),.f (.sl (pred.map rl))]] [] = some (vB (zAM succ pred),[]):=by
  rw [ze (fn:=ziZ) rfl];have hm:=zjX succ a;cases e : zbk succ
  ·simp -implicitDefEqProofs only [go_sem,zkf,e] at hm
   simp -implicitDefEqProofs only [go_sem,ziZ,hm,zAM,e]
  ·have b:=zlF (zN succ) pred [.cells 0 2 [[.f (.sl (succ.map rl)),.f (.sl (pred.map rl))]],.cells 0 2 [[.f (.sl (succ.map rl)),.f (.sl ((zN succ).map rl))]]] (by rw [zcq]; exact a.1) (zj0 succ a (zgS e))
   simp -implicitDefEqProofs only [go_sem,zkf,e] at hm b;simp -implicitDefEqProofs only [go_sem,ziZ,hm,b,zAM,e]
theorem zjL : zqb.length = 64:=rfl
theorem znP : zoi.length = 64:=rfl
def zF6 : Go.A.Code:=zr.p1
def zFX : Go.A.Code:=zr.p2.p1
def zF5 : Go.A.Code:=zr.p2.p2.p1
def zF9 : Go.A.Code:=zr.p2.p2.p2.p1
def zFD : Go.A.Code:=zr.p2.p2.p2.p2.p1
def zFA : Go.A.Code:=zr.p2.p2.p2.p2.p2.p1
theorem zF8 : zr = .seq zF6 (.seq zFX (.seq zF5 (.seq zF9 (.seq zFD (.seq zFA (.seq (.label 0) zjy)))))):=rfl
theorem zEd (succ pred : List (List Int)) (b : zjV succ) (hm : zAM succ pred = true) (root : Nat) (d : root < succ.length) : exec T zF6 ⟨[.agg [.f (.sl (succ.map rl)),.f (.sl (pred.map rl))],vI root,.one (.ptr 0 0 0 0),vL [],vU,vU,vU,vU,vU,vU,vU,vU,vU,vU],[obG succ pred],0,0⟩ =
  some (.normal,⟨[.agg [.f (.sl (succ.map rl)),.f (.sl (pred.map rl))],vI root,.one (.ptr 0 0 0 0),vL [],vU,vU,vU,vU,vU,vU,vB false,vU,vU,vU],[obG succ pred],0,0⟩):=by
 have h:=zqs succ pred b;rw [hm] at h;have a : ¬ (root : Int) < 0:=by omega
 have c : ¬ (succ.length : Int) ≤ (root : Int):=by omega
 simp -implicitDefEqProofs only [go_sem] at h;simp -implicitDefEqProofs only [go_sem,zF6,zr,Code.p1,obG,h,a,c]
theorem zCD (succ pred : List (List Int)) (root : Nat) (i : root < 64) (c : Go.A.Code) (a0 a3 b : V) : exec T (.seq zFX (.seq zF5 (.seq zF9 (.seq zFD (.seq zFA c))))) ⟨[a0,vI root,.one (.ptr 0 0 0 0),a3,vU,vU,vU,vU,vU,vU,b,vU,vU,vU],[obG succ pred],0,0⟩ =
  exec T c ⟨[a0,vI root,.one (.ptr 0 0 0 0),a3,.one (.ptr 1 0 0 0),.one (.ptr 2 0 0 0),.one (.own 3 0 0 0),.one (.own 4 0 0 1),vU,vU,b,vU,vU,vU],stO succ pred (zqb.set root true) zoi 0 [] 0 [(root : Int)],0,0⟩:=by
 have h : ((root : Int) < 64) = True:=by simp; omega
 have a:=zva (e:=zqb.map cB) (k:=root) (.f (.lit (.bool true))) (by rw [List.length_map,zjL]; exact i);have j : (zqb.map cB).set root (C.f (.lit (.bool true))) = (zqb.set root true).map cB:=by rw [yl]; rfl
 rw [j] at a;have hle:=zzR (show root < 64 by omega);have d : zFX = .reg [w 4 (.al (zqb.map cB) [])]:=rfl;have g : zF5 = .reg [w 5 (.al (zoi.map cN) [])]:=rfl;rw [d,g];simp -implicitDefEqProofs only [go_sem,zF9,zFD,zFA,zr,Code.p1,Code.p2,obG,stO,zjL,znP,h,yj,yh,Nat.mul_one,a,hle,zl]
@[go_sem] theorem zxB (succ pred : List (List Int)) (m : zjV succ) (hm : zAM succ pred = true) (root : Nat) (p : root < succ.length) (k : Nat) (v : k ≤ 4294967295) (o : List Int) (r : dfs succ k (zsK root) = some o) :
   call T 100 [.agg [.f (.sl (succ.map rl)),.f (.sl (pred.map rl))],vI root] [] = some (vIs o.reverse,[]):=by
  rw [ze (fn:=ziA) rfl];have g : zbk succ = true:=by simp only [zAM,yd] at hm; exact hm.1
  obtain ⟨w,s,t⟩:=zgg g;have j : ∀ l ∈ succ,∀ y ∈ l,0 ≤ y ∧ y < (succ.length : Int):=fun l q y u => by have:=znn _ _ _ (t l q) y u; omega
  have hd : DInv succ (zsK root):=⟨by simp [zsK,zjL],znP,fun X z => by
   have : zoi.getD X 0 = 0:=by
    have e : X < 64:=by omega
    have h : zoi[X]? = some 0:=by
     unfold zoi;rw [List.getElem?_replicate,if_pos e]
    rw [List.getD_eq_getElem?_getD,h];rfl
   simp only [zsK]
   omega,fun x n => by simp [zsK] at n; omega⟩
  obtain ⟨a,next',c,d,b,h⟩:=zDP succ pred s m.2 j k (zsK root) [] 0 0 o (.agg [.f (.sl (succ.map rl)),.f (.sl (pred.map rl))]) (vI root) (vL []) vU vU (vB false) vU vU vU hd (by simp [zsK]; omega) (by simp [zsK]; omega) r
  have e1 : exec T (.scope zr) ⟨[.agg [.f (.sl (succ.map rl)),.f (.sl (pred.map rl))],vI root,.one (.ptr 0 0 0 0),vL [],vU,vU,vU,vU,vU,vU,vU,vU,vU,vU],[obG succ pred],0,0⟩ = some (.ret,⟨[vU,vU,vU,.one (.own 3 c 0 o.length),vU,vU,vU,vU,vU,vU,vU,vU,vU,vU],stO succ pred a next' c o.reverse d b,0,0⟩):=by
   rw [← h,zih,zeR,zeR]
   congr 1
   rw [zqY,zfa,zeS];simp only [yg,zqo];rw [zF8,zfa,zEd succ pred m hm root p];simp only [yg,zqo];rw [zCD succ pred root (by omega),zfa,zra];rfl
  have i : (o.reverse.map zl).take o.length = o.reverse.map zl:=yb (by simp);simp -implicitDefEqProofs only [go_sem,obG,stO] at e1;simp -implicitDefEqProofs only [go_sem,ziA,e1,i,zdf]
def zF4 : List C → Bool
 | [.f (.lit (.int .i64 k))] => decide (k = -2)
 | _ => false
def zCG (n : Nat) : Bool:=match zfI T (zO T 3000) 230 [vL [[ei (-2)]],vI n] [] with
 | some (.one (.own 0 0 0 m),[.cells 0 1 rows]) => decide (m = n) && (decide (rows.length = n) && rows.all zF4)
 | _ => false
set_option maxRecDepth 100000 in
theorem zDx : ((List.range 64).all fun n => zCG (n + 1)) = true:=by kernel_rfl
theorem zD1 {r : List C} (h : zF4 r = true) : r = zl (-2):=by
 unfold zF4 at h;split at h
 ·simp only [decide_eq_true_eq] at h
  subst h;rfl
 ·cases h
theorem zu7 (n : Nat) (d : 1 ≤ n) (e : n ≤ 64) : call T 230 [vL [[ei (-2)]],vI n] [] = some (.one (.own 0 0 0 n),[.cells 0 1 ((ya n (-2 : Int)).map zl)]):=by
 have h:=yq.1 zDx (n - 1) (List.mem_range.2 (by omega));rw [show n - 1 + 1 = n by omega] at h;unfold zCG at h;split at h
 ·rename_i m rows he
  simp only [yd,decide_eq_true_eq,yq] at h;obtain ⟨rfl,c,a⟩:=h
  have : rows = (ya m (-2 : Int)).map zl:=by
   rw [yp];exact List.eq_replicate_iff.2 ⟨c,fun r b => zD1 (a r b)⟩
  rw [← this];exact zkz he
 ·cases h
theorem zke {n : Nat} {a : Int} (h : inR n a = true) : 0 ≤ a ∧ a < (n : Int) ∧ ¬ a < 0 ∧ ¬ (n : Int) ≤ a:=by
 simp only [inR,yd,decide_eq_true_eq] at h;omega
section
variable (t at' : List Int)
theorem zBC : ∀ (r : Nat) (a b c : Int) (a4 a5 a6 a7 : V),zpO t at' r a b = some c →
  exec T zlk ⟨[vIs t,vIs at',vI a,vI b,a4,a5,a6,a7],[],0,0⟩ = some (.exit 2,⟨[vIs t,vIs at',vI c,vI b,vU,vU,vU,vU],[],0,0⟩):=by
 intro r
 induction r with
 | zero => intro a b c _ _ _ _ h; simp [zpO] at h
 | succ r ih =>
   intro a b c a4 a5 a6 a7 h;rw [zpO] at h;split at h
   ·rename_i e
    simp only [yd] at e;obtain ⟨o,n,p⟩:=e;obtain ⟨p1,p2,g,m⟩:=zke o;obtain ⟨j,q,l,k⟩:=zke n;obtain ⟨s1,s2,i,f⟩:=zke p;rw [xl zlk rfl,zpT];split at h
    ·rename_i d
     have:=ih _ b c vU vU vU vU h;simp -implicitDefEqProofs only [go_sem] at this;simp -implicitDefEqProofs only [go_sem,p1,j,s1,zth g m,zth l k,zth i f,d,this]
    ·rename_i d
     injection h with h;subst h;simp -implicitDefEqProofs only [go_sem,p1,j,s1,zth g m,zth l k,zth i f,d]
   ·cases h
theorem zBO : ∀ (r : Nat) (a b c : Int) (a4 a5 a6 a7 : V),zpO t at' r b a = some c →
  exec T zlg ⟨[vIs t,vIs at',vI a,vI b,a4,a5,a6,a7],[],0,0⟩ = some (.exit 4,⟨[vIs t,vIs at',vI a,vI c,vU,vU,vU,vU],[],0,0⟩):=by
 intro r
 induction r with
 | zero => intro a b c _ _ _ _ h; simp [zpO] at h
 | succ r ih =>
   intro a b c a4 a5 a6 a7 h;rw [zpO] at h;split at h
   ·rename_i e
    simp only [yd] at e;obtain ⟨o,n,p⟩:=e;obtain ⟨p1,p2,g,m⟩:=zke o;obtain ⟨j,q,l,k⟩:=zke n;obtain ⟨s1,s2,i,f⟩:=zke p;rw [xl zlg rfl,zoG];split at h
    ·rename_i d
     have:=ih a _ c vU vU vU vU h;simp -implicitDefEqProofs only [go_sem] at this;simp -implicitDefEqProofs only [go_sem,p1,j,s1,zth g m,zth l k,zth i f,d,this]
    ·rename_i d
     injection h with h;subst h;simp -implicitDefEqProofs only [go_sem,p1,j,s1,zth g m,zth l k,zth i f,d]
   ·cases h
theorem zDX (K : Nat) : ∀ (r : Nat) (a b c : Int) (a4 a5 a6 a7 : V),ztd t at' K r a b = some c →
  exec T zlS ⟨[vIs t,vIs at',vI a,vI b,a4,a5,a6,a7],[],0,0⟩ = some (.exit 0,⟨[vU,vU,vI c,vU,vU,vU,vU,vU],[],0,0⟩):=by
 intro r
 induction r with
 | zero => intro a b c _ _ _ _ h; simp [ztd] at h
 | succ r ih =>
   intro a b c a4 a5 a6 a7 h;rw [ztd] at h;rw [xl zlS rfl,zpF];split at h
   ·rename_i d
    injection h with h;subst h;subst d;simp -implicitDefEqProofs only [go_sem]
   ·rename_i d
    split at h
    ·cases h
    ·rename_i e g
     split at h
     ·cases h
     ·rename_i f i
      have e1:=fun a4 a5 a6 a7 => zBC t at' K a b e a4 a5 a6 a7 g;have e2:=fun a4 a5 a6 a7 => zBO t at' K e b f a4 a5 a6 a7 i;have:=ih e f c vU vU vU vU h;simp -implicitDefEqProofs only [go_sem] at e1 e2 this;simp -implicitDefEqProofs only [go_sem,d,e1,e2,this]
theorem zAB (K r : Nat) (a b c : Int) (h : ztd t at' K r a b = some c) : call T 231 [vIs t,vIs at',vI a,vI b] [] = some (vI c,[]):=by
 rw [ze (fn:=zm1) rfl];have:=fun a4 a5 a6 a7 => zDX t at' K r a b c a4 a5 a6 a7 h;simp -implicitDefEqProofs only [go_sem] at this;simp -implicitDefEqProofs only [go_sem,zm1,this]
end
theorem zuL {t : List Int} {a : Int} (c : ¬ a < 0) (b : ¬ (t.length : Int) ≤ a) : (t.map zl)[a.toNat]? = some [.f (.lit (.int .i64 (tr t a)))]:=by
 have : a.toNat < t.length:=by omega
 simp [tr,this,zl]
section
variable (succ pred : List (List Int)) (hpl : pred.length = succ.length) (hps : ∀ l ∈ pred,l.length ≤ 4294967296) (n : Nat) (hn : n = succ.length) (hn64 : n ≤ 64) (root : Int) (order tail at' : List Int) (hat : at'.length = n) (htl : tail.length ≤ 4294967296)
abbrev stT (succ pred : List (List Int)) (t at' : List Int) : zd:=[obG succ pred,.cells 0 1 (t.map zl),.cells 0 1 (at'.map zl)]
include hpl hps hn hn64 hat htl
theorem zDs (K : Nat) (t : List Int) (D : t.length = n) (x : Int) (z : Int) (a : List Int) (f : a.length ≤ 4294967296) : ∀ (d k : Nat) (b c : Int) (a0 a3 a5 a8 a9 p i g o j q r a25 a26 a27 a28 : V),a.length - k = d → k ≤ a.length → zmb t at' K (a.drop k) b = some c →
  exec T zi3 ⟨[a0,vI root,.one (.ptr 0 0 0 0),a3,vIs order,a5,.one (.own 1 0 0 n),.one (.own 2 0 0 n),a8,a9,vI x,vI b,p,i,g,o,j,q,vIs tail,vI tail.length,vI z,r,vIs a,vI a.length,vI k,a25,a26,a27,a28],stT succ pred t at',0,0⟩ =
   some (.exit 4,⟨[vU,vI root,.one (.ptr 0 0 0 0),vU,vIs order,vU,.one (.own 1 0 0 n),.one (.own 2 0 0 n),vU,vU,vI x,vI c,vU,vU,vU,vU,vU,vU,vIs tail,vI tail.length,vI z,vU,vU,vU,vU,vU,vU,vU,vU],stT succ pred t at',0,0⟩):=by
 intro d;have w : (t.map zl).take n = t.map zl:=yb (by simp; omega);have s : (at'.map zl).take n = at'.map zl:=yb (by simp; omega)
 induction d with
 | zero =>
   intro k b c a0 a3 a5 a8 a9 p i g o j q r a25 a26 a27 a28 C B h;have e : k = a.length:=(by omega);subst e;rw [ym] at h;simp only [zmb,Option.some.injEq] at h;subst h;rw [xl zi3 rfl,zlu];simp -implicitDefEqProofs only [go_sem,stT,obG,yo]
 | succ d ih =>
   intro k b c a0 a3 a5 a8 a9 p i g o j q r a25 a26 a27 a28 C B h;have e : k < a.length:=(by omega);have hd : a.drop k = a[k] :: a.drop (k + 1):=yf e;rw [hd,zmb] at h;split at h
   ·rename_i A
    obtain ⟨p1,p2,u,v⟩:=zke A;have l : a[k] < (n : Int):=(by omega);rw [xl zi3 rfl,zlu];split at h
    ·rename_i c1
     have:=ih (k + 1) b c vU vU vU vU vU vU vU vU vU vU vU vU vU vU vU vU (by omega) (by omega) h;simp -implicitDefEqProofs only [go_sem,stT,obG] at this;simp -implicitDefEqProofs only [go_sem,stT,obG,ilt e,zm e,ri,p1,l,zuL u v,c1,za e f,this]
    ·rename_i c1
     split at h
     ·rename_i c2
      subst c2;have:=ih (k + 1) a[k] c vU vU vU vU vU vU vU vU vU vU vU vU vU vU vU vU (by omega) (by omega) h;simp -implicitDefEqProofs only [go_sem,stT,obG] at this;simp -implicitDefEqProofs only [go_sem,stT,obG,ilt e,zm e,ri,p1,l,zuL u v,c1,za e f,this]
     ·rename_i c2
      split at h
      ·cases h
      ·rename_i m hm
       have y:=zAB t at' K K b a[k] m hm;have:=ih (k + 1) m c vU vU vU vU vU vU vU vU vU vU vU vU vU vU vU vU (by omega) (by omega) h;simp -implicitDefEqProofs only [go_sem,stT,obG] at this y;simp -implicitDefEqProofs only [go_sem,stT,obG,ilt e,zm e,ri,p1,l,zuL u v,c1,c2,w,s,zdf,y,za e f,this]
   ·cases h
theorem zC5 (K : Nat) (t : List Int) (E : t.length = n) : ∀ (d k : Nat) (res : Option (Int × Int)) (a0 a3 a5 a8 a9 q r j c a i e l m a22 a23 a24 a25 a26 a27 a28 : V),tail.length - k = d → k ≤ tail.length → zrI pred t at' K (tail.drop k) = some res →
  exec T ziE ⟨[a0,vI root,.one (.ptr 0 0 0 0),a3,vIs order,a5,.one (.own 1 0 0 n),.one (.own 2 0 0 n),a8,a9,q,r,j,c,a,i,e,l,vIs tail,vI tail.length,vI k,m,a22,a23,a24,a25,a26,a27,a28],stT succ pred t at',0,0⟩ =
   some (match res with
    | none => (.exit 2,⟨[vU,vI root,vU,vU,vU,vU,.one (.own 1 0 0 n),vU,vU,vU,vU,vU,vU,vU,vU,vU,vU,vU,vU,vU,vU,vU,vU,vU,vU,vU,vU,vU,vU],stT succ pred t at',0,0⟩)
    | some (x,b) => (.goto 0,⟨[vU,vI root,.one (.ptr 0 0 0 0),vU,vIs order,vU,.one (.own 1 0 0 n),.one (.own 2 0 0 n),vU,vU,vU,vU,vU,vU,vU,vU,vU,vU,vU,vU,vU,vU,vU,vU,vU,vU,vU,vU,vU],stT succ pred (t.set x.toNat b) at',0,0⟩)):=by
 intro d
 induction d with
 | zero =>
   intro k res a0 a3 a5 a8 a9 q r j c a i e l m a22 a23 a24 a25 a26 a27 a28 D A h;have p : k = tail.length:=(by omega);subst p;rw [ym] at h;simp only [zrI,Option.some.injEq] at h;subst h;rw [xl ziE rfl,zlK];simp -implicitDefEqProofs only [go_sem,stT,obG,yo]
 | succ d ih =>
   intro k res a0 a3 a5 a8 a9 q r j c a i e l m a22 a23 a24 a25 a26 a27 a28 D A h;have p : k < tail.length:=(by omega);have hd : tail.drop k = tail[k] :: tail.drop (k + 1):=yf p;rw [hd,zrI] at h;split at h
   ·rename_i z
    obtain ⟨p1,p2,w,y⟩:=zke z;have s : tail[k] < (n : Int):=(by omega);have o : tail[k].toNat < pred.length:=(by omega);have v : pred.getD tail[k].toNat [] = pred[tail[k].toNat]:=(by simp [o]);rw [v] at h;split at h
    ·cases h
    ·rename_i b B
     have g:=fun a0 a3 a5 a8 a9 j c a i e l m a25 a26 a27 a28 => zDs succ pred hpl hps n hn hn64 root order tail at' hat htl K t E tail[k] k pred[tail[k].toNat] (hps _ (yr o)) _ 0 (-2) b a0 a3 a5 a8 a9 j c a i e l m a25 a26 a27 a28 rfl (yv _) B;rw [xl ziE rfl,zlK];simp only [yk] at g;split at h
     ·rename_i c1
      have:=ih (k + 1) res vU vU vU vU vU vU vU vU vU vU vU vU vU vU vU vU vU vU vU vU vU (by omega) (by omega) h;simp -implicitDefEqProofs only [go_sem,stT,obG] at this g;simp -implicitDefEqProofs only [go_sem,stT,obG,ilt p,zm p,zm o,ri,rl,p1,s,g,zuL w y,c1,za p htl,this]
     ·rename_i c1
      injection h with h;subst h;have u : (t.map zl).set tail[k].toNat [C.f (.lit (.int .i64 b))] = (t.set tail[k].toNat b).map zl:=(by rw [yl]; rfl);simp -implicitDefEqProofs only [go_sem,stT,obG] at g;simp -implicitDefEqProofs only [go_sem,stT,obG,ilt p,zm p,zm o,ri,rl,p1,s,g,zuL w y,c1,u]
   ·cases h
end
def zl6 : Go.A.Code:=zag.p2.p2.p2.p2.p2.p2.p2
theorem zzn : zlp = .seq .skip zl6:=rfl
section
variable (succ pred : List (List Int)) (hpl : pred.length = succ.length) (hps : ∀ l ∈ pred,l.length ≤ 4294967296) (n : Nat) (hn : n = succ.length) (hn64 : n ≤ 64) (root : Nat) (hroot : root < n) (tail : List Int) (htl : tail.length ≤ 4294967295)
include hpl hps hn hn64
theorem zDq (order : List Int) (q : order.length ≤ 4294967296) (v : ∀ x ∈ order,0 ≤ x ∧ x < (n : Int)) (t : List Int) : ∀ (d k : Nat) (b : List Int) (a0 a3 a5 a8 a9 e i j c m l h a20 o a22 a23 a24 a25 a26 a27 a28 : V),b.length = n → order.length - k = d → k ≤ order.length →
  exec T zi9 ⟨[a0,vI root,.one (.ptr 0 0 0 0),a3,vIs order,a5,.one (.own 1 0 0 n),.one (.own 2 0 0 n),a8,a9,e,i,j,c,vIs order,vI order.length,vI k,m,l,h,a20,o,a22,a23,a24,a25,a26,a27,a28],stT succ pred t b,0,0⟩ =
   some (.exit 0,⟨[vU,vI root,.one (.ptr 0 0 0 0),vU,vIs order,vU,.one (.own 1 0 0 n),.one (.own 2 0 0 n),vU,vU,vU,vU,vU,vU,vU,vU,vU,vU,vU,vU,vU,vU,vU,vU,vU,vU,vU,vU,vU],stT succ pred t (zki k (order.drop k) b),0,0⟩):=by
 intro d
 induction d with
 | zero =>
   intro k b a0 a3 a5 a8 a9 e i j c m l h a20 o a22 a23 a24 a25 a26 a27 a28 r w s;have g : k = order.length:=(by omega);subst g;rw [xl zi9 rfl,zlH];simp -implicitDefEqProofs only [go_sem,stT,obG,yo,ym,zki]
 | succ d ih =>
   intro k b a0 a3 a5 a8 a9 e i j c m l h a20 o a22 a23 a24 a25 a26 a27 a28 r w s;have g : k < order.length:=(by omega);have hd : order.drop k = order[k] :: order.drop (k + 1):=yf g;obtain ⟨p1,p2⟩:=v _ (yr g);have u:=zuL (t:=b) (a:=order[k]) (by omega) (by omega);have p : (b.map zl).set order[k].toNat [C.f (.lit (.int .i64 (k : Int)))] = (b.set order[k].toNat (k : Int)).map zl:=(by rw [yl]; rfl);have:=ih (k + 1) (b.set order[k].toNat (k : Int)) vU vU vU vU vU vU vU vU vU vU vU vU vU vU vU vU vU vU vU vU vU (by simpa using r) (by omega) (by omega);rw [xl zi9 rfl,zlH,hd,zki];simp -implicitDefEqProofs only [go_sem,stT,obG] at this;simp -implicitDefEqProofs only [go_sem,stT,obG,ilt g,zm g,ri,p1,p2,u,p,za g q,this]
include hroot htl
theorem zqw (K : Nat) (c : List Int) (y : c.length = n) (t : List Int) (A : t.length = n) (p : Int) (res : Option (Int × Int)) (h : zrI pred t c K tail = some res)
  (a0 a3 a5 a8 a9 i k l e d j g m w v a20 o a22 a23 a24 a25 a26 a27 a28 : V) :
  exec T zl6 ⟨[a0,vI root,.one (.ptr 0 0 0 0),a3,vIs (p :: tail),a5,.one (.own 1 0 0 n),.one (.own 2 0 0 n),a8,a9,i,k,l,e,d,j,g,m,w,v,a20,o,a22,a23,a24,a25,a26,a27,a28],stT succ pred t c,0,0⟩ =
   some (match res with
    | none => (.ret,⟨[vU,vU,vU,.one (.own 1 0 0 n),vU,vU,vU,vU,vU,vU,vU,vU,vU,vU,vU,vU,vU,vU,vU,vU,vU,vU,vU,vU,vU,vU,vU,vU,vU],stT succ pred (t.set root (-1)) c,0,0⟩)
    | some (x,b) => (.goto 0,⟨[vU,vI root,.one (.ptr 0 0 0 0),vU,vIs (p :: tail),vU,.one (.own 1 0 0 n),.one (.own 2 0 0 n),vU,vU,vU,vU,vU,vU,vU,vU,vU,vU,vU,vU,vU,vU,vU,vU,vU,vU,vU,vU,vU],stT succ pred (t.set x.toNat b) c,0,0⟩)):=by
 have s:=fun a0 a3 a5 a8 a9 i k l e d j g m o a22 a23 a24 a25 a26 a27 a28 => zC5 succ pred hpl hps n hn hn64 root (p :: tail) tail c y (by omega) K t A tail.length 0 res a0 a3 a5 a8 a9 i k l e d j g m o a22 a23 a24 a25 a26 a27 a28 (by omega) (by omega) h;simp only [yk] at s;have r : (ri p).length = 1:=rfl;have e1 : (ri p :: tail.map ri).take (tail.length + 1) = ri p :: tail.map ri:=yb (by simp);have e2 : (1 ≤ tail.length + 1) = True:=by simp
 have u : ((root : Int) < (n : Int)) = True:=by simp; omega
 have q : (t.map zl).set root [C.f (.lit (.int .i64 (-1)))] = (t.set root (-1)).map zl:=by rw [yl]; rfl
 have z:=zuL (t:=t) (a:=(root : Int)) (by omega) (by omega);rw [yh] at z
 cases res with
 | none =>
   simp -implicitDefEqProofs only [go_sem,stT,obG] at s;simp -implicitDefEqProofs only [go_sem,stT,obG,zl6,zag,Code.p2,ys,r,zuT,e1,e2,s,u,yj,yh,z,q]
 | some xb =>
   obtain ⟨x,b⟩:=xb;simp -implicitDefEqProofs only [go_sem,stT,obG] at s;simp -implicitDefEqProofs only [go_sem,stT,obG,zl6,zag,Code.p2,ys,r,zuT,e1,e2,s]
theorem zB9 (K : Nat) (a : List Int) (o : a.length = n) (u : Int) : ∀ (r : Nat) (t q : List Int) (a0 a3 a5 a8 a9 f j k d c g e m l i a20 p a22 a23 a24 a25 a26 a27 a28 : V),t.length = n → zhb pred a K tail r t = some q →
  exec T (.sc zag zlp) ⟨[a0,vI root,.one (.ptr 0 0 0 0),a3,vIs (u :: tail),a5,.one (.own 1 0 0 n),.one (.own 2 0 0 n),a8,a9,f,j,k,d,c,g,e,m,l,i,a20,p,a22,a23,a24,a25,a26,a27,a28],stT succ pred t a,0,0⟩ =
   some (.ret,⟨[vU,vU,vU,.one (.own 1 0 0 n),vU,vU,vU,vU,vU,vU,vU,vU,vU,vU,vU,vU,vU,vU,vU,vU,vU,vU,vU,vU,vU,vU,vU,vU,vU],stT succ pred (q.set root (-1)) a,0,0⟩):=by
 intro r
 induction r with
 | zero => intro t q _ _ _ _ _ _ _ _ _ _ _ _ _ _ _ _ _ _ _ _ _ _ _ _ _ h; simp [zhb] at h
 | succ r ih =>
   intro t q a0 a3 a5 a8 a9 f j k d c g e m l i a20 p a22 a23 a24 a25 a26 a27 a28 v h;rw [zhb] at h;rw [zeR,zzn,zfa,zeS];simp only [yg,zqo];split at h
   ·cases h
   ·rename_i s
    injection h with h;subst h;rw [zqw succ pred hpl hps n hn hn64 root hroot tail htl K a o t v u none s];simp only [yg,scK]
   ·rename_i x b s
    rw [zqw succ pred hpl hps n hn hn64 root hroot tail htl K a o t v u (some (x,b)) s];simp only [yg,scK,zqq];exact ih _ _ _ _ _ _ _ _ _ _ _ _ _ _ _ _ _ _ _ _ _ _ _ _ _ _ (by simpa using v) h
end
def zFe : Go.A.Code:=zag.p1
def zE5 : Go.A.Code:=zag.p2.p1
def zEF : Go.A.Code:=zag.p2.p2.p1
def zEJ : Go.A.Code:=zag.p2.p2.p2.p1
def zEG : Go.A.Code:=zag.p2.p2.p2.p2.p1
def zES : Go.A.Code:=zag.p2.p2.p2.p2.p2.p1
theorem zGh : zag = .seq zFe (.seq zE5 (.seq zEF (.seq zEJ (.seq zEG (.seq zES (.seq (.label 0) zl6)))))):=rfl
theorem zzd (succ pred : List (List Int)) (R : zjV succ) (hm : zAM succ pred = true) (root : Nat) (B : root < succ.length) (k : Nat) (W : k ≤ 4294967295) (o : List Int) (X : dfs succ k (zsK root) = some o)
  (g : Int) (tail : List Int) (a : o.reverse = g :: tail) (N : ∀ x ∈ o,0 ≤ x ∧ x < (succ.length : Int)) (S : o.length ≤ 4294967295) (K r : Nat) (t : List Int) (L : zhb pred (at0 succ.length o.reverse) K tail r (zkV succ.length root) = some t) :
  call T 195 [.agg [.f (.sl (succ.map rl)),.f (.sl (pred.map rl))],vI root] [] = some (vIs (t.set root (-1)),[]):=by
 rw [ze (fn:=znv) rfl];have b : zbk succ = true ∧ zN succ = pred:=by simpa [zAM] using hm
 obtain ⟨Y,H,Z⟩:=zgg b.1;have hpl : pred.length = succ.length:=by rw [← b.2,zcq]
 have hps : ∀ l ∈ pred,l.length ≤ 4294967296:=by rw [← b.2]; exact zj0 succ R (zgS b.1)
 have P:=zxB succ pred R hm root B k W o X;have Q:=zu7 succ.length Y H
 have htl : tail.length ≤ 4294967295:=by
  have : o.reverse.length = tail.length + 1:=by rw [a]; rfl
  rw [List.length_reverse] at this;omega
 have y:=fun a0 a3 a5 a8 a9 e j m d p n i a20 u a22 a23 a24 a25 a26 a27 a28 => zDq succ pred hpl hps succ.length rfl H root (g :: tail) (by simp only [yi]; omega) (fun x U => N x (List.mem_reverse.1 (by rw [a]; exact U))) (ya succ.length (-2)) (g :: tail).length 0 (ya succ.length 0) a0 a3 a5 a8 a9 e j m d p n i a20 u a22 a23 a24 a25 a26 a27 a28 (by simp) rfl (yv _);simp only [List.drop_zero,yk] at y;rw [a] at P L;have z : ((root : Int) < (succ.length : Int)) = True:=by simp; omega
 have v : ((ya succ.length (-2 : Int)).map zl).set root [C.f (.lit (.int .i64 (root : Int)))] = (zkV succ.length root).map zl:=by rw [zkV,yl]; rfl
 have q : ((ya succ.length (-2 : Int)).map zl)[root]? = some [.f (.lit (.int .i64 (-2)))]:=by simp [B,zl]
 have M : (at0 succ.length (g :: tail)).length = succ.length:=by rw [at0,ziM]; simp
 have w : (succ.length : Int) ≤ (LIM : Int):=by unfold LIM; omega
 have V : ya succ.length [C.f (.lit (.int .i64 0))] = (ya succ.length (0 : Int)).map zl:=by rw [yp]; rfl
 have O : ¬ ((tail.length + 1 : Nat) : Int) = 0:=by omega
 have e1 : exec T (.scope zag) ⟨[.agg [.f (.sl (succ.map rl)),.f (.sl (pred.map rl))],vI root,.one (.ptr 0 0 0 0),vL [],vU,vU,vU,vU,vU,vU,vU,vU,vU,vU,vU,vU,vU,vU,vU,vU,vU,vU,vU,vU,vU,vU,vU,vU,vU],[obG succ pred],0,0⟩ = some (.ret,⟨[vU,vU,vU,.one (.own 1 0 0 succ.length),vU,vU,vU,vU,vU,vU,vU,vU,vU,vU,vU,vU,vU,vU,vU,vU,vU,vU,vU,vU,vU,vU,vU,vU,vU],stT succ pred (t.set root (-1)) (at0 succ.length (g :: tail)),0,0⟩):=by
  have h:=fun a0 a3 a5 a8 a9 e j m d D I E p n i a20 u a22 a23 a24 a25 a26 a27 a28 => zB9 succ pred hpl hps succ.length rfl H root B tail htl K (at0 succ.length (g :: tail)) M g r (zkV succ.length root) t a0 a3 a5 a8 a9 e j m d D I E p n i a20 u a22 a23 a24 a25 a26 a27 a28 (by simp [zkV]) L;rw [← h vU vU vU vU vU vU vU vU vU vU vU vU vU vU vU vU vU vU vU vU vU vU vU vU];rw [zih,zeR,zeR]
  congr 1
  rw [zzn,zfa,zeS];simp only [yg,zqo];rw [zGh];have A : zEJ = .regd [] [⟨.loc,.bsl .fz 1 [[.f (.lit (.int .i64 0))]] [(0,.c (vI (-2)))],none⟩,⟨.loc,.mv (.s 5),none⟩,⟨.loc,.call .ck (.c (.one (.fn 230 [] []))) [.l 1,.l 0],none⟩,⟨.loc,.mv (.s 5),none⟩,⟨.loc,.mks [.f (.lit (.int .i64 0))] none (.l 0),none⟩,⟨.slot 6,.mv (.l 2),none⟩,⟨.slot 7,.mv (.l 1),none⟩]:=rfl
  have G : (yw zl (ya succ.length (-2 : Int))).map (C.shifts 1) = yw zl (ya succ.length (-2 : Int)):=by
   rw [List.map_map];rfl
  simp -implicitDefEqProofs only [go_sem,obG,stT] at P Q y;simp -implicitDefEqProofs only [go_sem,obG,stT,zFe,zE5,zEF,A,zEG,zES,zag,Code.p1,Code.p2,P,Q,O,w,yj,yh,V,G,y,z,q,v];rfl
 have J : ((t.set root (-1)).map zl).take succ.length = (t.set root (-1)).map zl:=yb (by have:=zk9 L; simp [zkV] at this; simp; omega);simp -implicitDefEqProofs only [go_sem,obG,stT] at e1;simp -implicitDefEqProofs only [go_sem,znv,e1,J,zdf]
open Dm
theorem ztc {α : Type} (k a : Int) (v : α) : ∀ D : List (Int × α),getM k (zjr a v D) = if a = k then some v else getM k D
 | [] => by by_cases c : a = k <;> simp [zjr,getM,c]
 | e :: D => by
   rw [zjr]
   by_cases c : e.1 = a
   ·rw [if_pos c,getM,getM]
    by_cases d : a = k
    ·rw [if_pos d,if_pos d]
    ·rw [if_neg d,if_neg d,if_neg (fun h => d (c.symm.trans h))]
   ·rw [if_neg c,getM,getM,ztc k a v D]
    by_cases d : e.1 = k
    ·rw [if_pos d,if_pos d,if_neg (fun h => c (d.trans h.symm))]
    ·rw [if_neg d,if_neg d]
def toP (u : Use) : PDef:=⟨u.block,u.at',u.shape⟩
def lk (ds : List Use) (v : Int) : Option PDef:=(ds.find? fun u => decide (u.v = v)).map toP
def Rep (D : zkI) (ds : List Use) : Prop:=∀ v,getM v D = lk ds v
theorem zEM (ds : List Use) (u : Use) (v : Int) : lk (ds ++ [u]) v = if (lk ds v).isSome = true then lk ds v else if u.v = v then some (toP u) else none:=by
 unfold lk;rw [List.find?_append]
 cases h : ds.find? (fun u => decide (u.v = v)) with
 | some x => simp
 | none =>
   by_cases c : u.v = v
   ·simp [c]
   ·simp [c]
theorem zus {D : zkI} {ds : List Use} (R : Rep D ds) (u : Use) (h : (lk ds u.v).isNone = true) : Rep (zjr u.v (toP u) D) (ds ++ [u]):=by
 intro v;rw [ztc,zEM,R v]
 by_cases c : u.v = v
 ·subst c
  have : (lk ds u.v).isSome = false:=by
   cases e : lk ds u.v
   ·rfl
   ·rw [e] at h; cases h
  rw [if_pos rfl,this,if_neg (by simp),if_pos rfl]
 ·rw [if_neg c,if_neg c]
  cases e : lk ds v <;> simp
def zgm : List Use → List Use → Bool
 | _,[] => true
 | pre,u :: r => (value u.v && (lk pre u.v).isNone) && zgm (pre ++ [u]) r
theorem zmB : ∀ (a b pre : List Use),zgm pre (a ++ b) = (zgm pre a && zgm (pre ++ a) b)
 | [],b,pre => by rw [yn,List.append_nil,zgm,yu]
 | u :: a,b,pre => by
   rw [yt,zgm,zgm,zmB a b];simp only [Bool.and_assoc,yc,ye]
theorem zm8 {ds : List Use} {v : Int} : (lk ds v).isNone = true ↔ ∀ u ∈ ds,u.v ≠ v:=by
 unfold lk;rw [Option.isNone_map,Option.isNone_iff_eq_none,List.find?_eq_none];simp
theorem zvz (v : Int) : ∀ (pre : List Use) (u : Use) (r : List Use) (k : Nat),u.v = v → (zj v k (pre ++ u :: r) = ((k + pre.length : Nat) : Int) ↔ ∀ x ∈ pre,x.v ≠ v)
 | [],u,r,k,h => by simp [zj,h]
 | x :: pre,u,r,k,h => by
   rw [yt,zj]
   by_cases c : x.v = v
   ·rw [if_pos c]
    constructor
    ·intro e
     simp only [yi] at e;omega
    ·intro e
     exact absurd c (e x List.mem_cons_self)
   ·rw [if_neg c]
    have b:=zvz v pre u r (k + 1) h;rw [show k + 1 + pre.length = k + (x :: pre).length by simp only [yi]; omega] at b;rw [b];constructor
    ·intro e y a
     rcases List.mem_cons.1 a with rfl | a
     ·exact c
     ·exact e y a
    ·exact fun e y a => e y (List.mem_cons_of_mem _ a)
theorem zrP (defs : List Use) : ∀ (r pre : List Use),defs = pre ++ r → zfG defs pre.length r = zgm pre r
 | [],_,_ => rfl
 | u :: r,pre,h => by
   have b:=zrP defs r (pre ++ [u]) (by rw [h]; simp);rw [List.length_append,List.length_singleton] at b;rw [zfG,zgm,b]
   congr 2
   have a:=zvz u.v pre u r 0 rfl;rw [← h,Nat.zero_add] at a;rw [Bool.eq_iff_iff,decide_eq_true_eq,a,zm8]
theorem zmN {v : Int} : value v = true ↔ ¬ (v < 1 ∨ 1023 < v):=by
 unfold value;rw [yd,decide_eq_true_eq,decide_eq_true_eq];omega
theorem zqL : ∀ (l : List Int) (k : Nat) (D : zkI) (pre : List Use),Rep D pre → (∀ u ∈ pre,u.v ≤ (k : Int)) → k + l.length ≤ 16 → Rep (zd4 k D l) (pre ++ zaO k l) ∧ zgm pre (zaO k l) = true
 | [],k,D,pre,R,_,_ => by simpa [zd4,zaO,zgm] using R
 | b :: l,k,D,pre,R,hp,hl => by
   have c : (lk pre ((k : Int) + 1)).isNone = true:=zm8.2 fun u hu => by have:=hp u hu; omega
   simp only [yi] at hl
   obtain ⟨a,e⟩:=zqL l (k + 1) (zjr ((k : Int) + 1) ⟨-1,0,(b,1)⟩ D) (pre ++ [(⟨(k : Int) + 1,(b,1),-1,0⟩ : Use)]) (zus R (⟨(k : Int) + 1,(b,1),-1,0⟩ : Use) c) (fun u hu => by
    rcases List.mem_append.1 hu with hu | hu
    ·have:=hp u hu; omega
    ·rw [List.mem_singleton.1 hu]; show (k : Int) + 1 ≤ _; omega) (by omega)
   rw [zd4,zaO,zgm,e];rw [yc,ye] at a;refine ⟨a,?_⟩;have d : value ((k : Int) + 1) = true:=zmN.2 (by omega);simp only [d,c,Bool.and_true]
theorem zwo (i : Int) : ∀ (l : List PPhi) (D : zkI) (pre : List Use),Rep D pre → ((zha i D l).2.isNone = zgm pre (zcZ i l)) ∧ (zgm pre (zcZ i l) = true → Rep (zha i D l).1 (pre ++ zcZ i l))
 | [],D,pre,R => ⟨rfl,fun _ => by simpa [zha,zcZ] using R⟩
 | p :: l,D,pre,R => by
   have e : zcZ i (p :: l) = ⟨p.dst,(p.bits,1),i,-1⟩ :: zcZ i l:=rfl;rw [zha,e,zgm]
   by_cases c : p.dst < 1 ∨ 1023 < p.dst
   ·have a : value p.dst = false:=by
     cases h : value p.dst
     ·rfl
     ·exact absurd c (zmN.1 h)
    rw [if_pos c,a];exact ⟨rfl,fun h => by simp at h⟩
   ·have a : value p.dst = true:=zmN.2 c
    rw [if_neg c,a,R p.dst];cases g : (lk pre p.dst).isNone
    ·rw [if_neg (by simp)]
     exact ⟨rfl,fun h => by simp at h⟩
    ·rw [if_pos rfl]
     have f : Rep (zjr p.dst ⟨i,-1,(p.bits,1)⟩ D) (pre ++ [(⟨p.dst,(p.bits,1),i,-1⟩ : Use)]):=zus R (⟨p.dst,(p.bits,1),i,-1⟩ : Use) g;obtain ⟨d,b⟩:=zwo i l _ _ f;rw [yc,ye] at b;exact ⟨by simpa using d,fun h => b (by simpa using h)⟩
theorem zvl {o : POp} (h : 0 < (zad o).1) : value o.dst = true:=by
 unfold zad at h;split at h
 ·simp at h
 ·rename_i c
  have hm : zgx o = true:=by
   cases e : zgx o
   ·exact absurd (.inl e) c
   ·rfl
  have a : zfz o.kind = false:=by
   cases e : zfz o.kind
   ·rfl
   ·exact absurd (.inr e) c
  unfold zgx at hm;simp only [yd] at hm;have:=hm.2.2.1;rw [a] at this;simpa using this
theorem zuJ (i : Int) : ∀ (l : List POp) (k : Nat) (D : zkI) (pre : List Use),Rep D pre → ((zje i k D l).2.isNone = zgm pre (zcX i k l)) ∧ (zgm pre (zcX i k l) = true → Rep (zje i k D l).1 (pre ++ zcX i k l))
 | [],k,D,pre,R => ⟨rfl,fun _ => by simpa [zje,zcX] using R⟩
 | o :: l,k,D,pre,R => by
   rw [zje,zcX]
   by_cases c : (zad o).1 ≤ 0
   ·rw [if_pos c,if_neg (show ¬ 0 < (zad o).1 by omega)]
    exact zuJ i l (k + 1) D pre R
   ·rw [if_neg c,if_pos (show 0 < (zad o).1 by omega),zgm,zvl (o:=o) (by omega),R o.dst]
    cases e : (lk pre o.dst).isNone
    ·rw [if_neg (by simp)]
     exact ⟨rfl,fun h => by simp at h⟩
    ·rw [if_pos rfl]
     have d : Rep (zjr o.dst ⟨i,(k : Int),zad o⟩ D) (pre ++ [(⟨o.dst,zad o,i,(k : Int)⟩ : Use)]):=zus R (⟨o.dst,zad o,i,(k : Int)⟩ : Use) e;obtain ⟨b,a⟩:=zuJ i l (k + 1) _ _ d;rw [yc,ye] at a;exact ⟨by simpa using b,fun h => a (by simpa using h)⟩
theorem zrm : ∀ (l : List PBlock) (k : Nat) (D : zkI) (pre : List Use),Rep D pre → ((zev k D l).2.isNone = zgm pre (zX k l)) ∧ (zgm pre (zX k l) = true → Rep (zev k D l).1 (pre ++ zX k l))
 | [],k,D,pre,R => ⟨rfl,fun _ => by simpa [zev,zX] using R⟩
 | b :: l,k,D,pre,R => by
   obtain ⟨p1,p2⟩:=zwo (k : Int) b.phis D pre R;rw [zev,zX,zmB,zmB]
   cases g : zha (k : Int) D b.phis with
   | mk D1 q =>
     rw [g] at p1 p2
     cases q with
     | some x =>
       rw [← p1];exact ⟨rfl,fun h => by simp at h⟩
     | none =>
       rw [← p1];have c:=p2 (by rw [← p1]; rfl);simp only at c;obtain ⟨a,d⟩:=zuJ (k : Int) b.ops 0 D1 _ c;simp only
       cases f : zje (k : Int) 0 D1 b.ops with
       | mk D2 q2 =>
         rw [f] at a d
         cases q2 with
         | some x =>
           rw [← a];exact ⟨rfl,fun h => by simp at h⟩
         | none =>
           rw [← a];have e:=d (by rw [← a]; rfl);obtain ⟨b1,b2⟩:=zrm l (k + 1) D2 _ e;rw [yc] at b1 b2;simp only [yc] at b1 b2;refine ⟨by simpa using b1,fun h => ?_⟩;have:=b2 (by simpa using h);simpa [yc] using this
theorem zB5 {f : PFunc} (h : f.params.length ≤ 16) : ((zsh f).2.isNone = zfG (zL f) 0 (zL f)) ∧ (zfG (zL f) 0 (zL f) = true → Rep (zsh f).1 (zL f)):=by
 have e:=zrP (zL f) (zL f) [] (by simp);rw [List.length_nil] at e;have c : Rep [] []:=fun v => rfl;obtain ⟨a,b⟩:=zqL f.params 0 [] [] c (by simp) (by omega);rw [yn] at a;obtain ⟨b1,b2⟩:=zrm f.blocks 0 _ _ a
 have ea : zgm [] (zL f) = zgm (zaO 0 f.params) (zX 0 f.blocks):=by
  unfold zL;rw [zmB,b,yu,yn]
 rw [e,ea];exact ⟨b1,b2⟩
end AC
