/- A part of the proof of AffineFinds. Conditions: none. -/
import Derived.Test.YtmkncmffaaninaaGreatXAW
set_option linter.all false
open List renaming drop_eq_getElem_cons → ya,replicate → yb,length_cons → yd,getElem_mem → ye,drop_length → yg,drop_zero → yh,take_succ_eq_append_getElem → yi,length_map → yj,map_append → yk,count_cons_self → yl,range → ym,length → yn,take_of_length_le → yo,count_cons_of_ne → yp,getElem?_eq_none → yq,range_succ → yr,foldl_cons → yw,take_zero → yy,mem_cons → yz,sum_cons → yB,map_set → yC,mem_map → yD,map → yE
open Int renaming natCast_zero → yc,lt_irrefl → yf,natCast_nonneg → ys,toNat_natCast → yt,reduceEq → yu
open Bool renaming not_eq_true' → yv
open Nat renaming add_assoc → yx,add_comm → yA
namespace AC
open Go Go.A Go.A.Lex
set_option maxHeartbeats 4000000
theorem zt0 (o : POp) (c : zwG o) : call T 127 [vOp o] [] = some (.tup [vI (zad o).1,vI (zad o).2],[]):=by
 rw [ze (fn:=zH) rfl];have b:=zmT o c;cases hm : zgh o
 ·simp -implicitDefEqProofs only [go_sem,hm] at b
  simp -implicitDefEqProofs only [go_sem,zH,zad,hm,b]
 simp -implicitDefEqProofs only [go_sem,hm] at b
 by_cases c1 : o.kind = 17
 ·simp -implicitDefEqProofs only [go_sem,zH,zad,zfx,hm,b,eq_true c1]
 by_cases c2 : o.kind = 19
 ·simp -implicitDefEqProofs only [go_sem,zH,zad,zfx,hm,b,c1,eq_true c2]
 by_cases c3 : 10 ≤ o.kind
 ·have a : o.kind ≥ 10:=c3
  by_cases c4 : o.kind ≤ 12
  ·simp -implicitDefEqProofs only [go_sem,zH,zad,zfx,hm,b,c1,c2,eq_true c3,eq_true a,eq_true c4]
  ·by_cases c5 : o.kind = 22
   ·simp -implicitDefEqProofs only [go_sem,zH,zad,zfx,hm,b,c1,c2,eq_true c3,eq_true a,c4,eq_true c5]
   ·simp -implicitDefEqProofs only [go_sem,zH,zad,zfx,hm,b,c1,c2,eq_true c3,eq_true a,c4,c5]
 ·have a : ¬ o.kind ≥ 10:=c3
  have c5 : ¬ o.kind = 22:=by omega
  simp -implicitDefEqProofs only [go_sem,zH,zad,zfx,hm,b,c1,c2,c3,a,c5,false_and]
def zmi (o : POp) (k : Nat) : Int × Int :=
 if o.kind = 13 ∨ o.kind = 20 then (if k = 0 then (1,1) else (o.bits,o.lanes))
 else if o.kind = 14 ∨ o.kind = 15 then (o.imm,1)
 else if o.kind = 16 ∨ o.kind = 17 then (if k = 0 then (64,1) else (o.bits,o.lanes))
 else if o.kind = 18 ∨ o.kind = 19 then (if k = 1 then (64,1) else if k = 0 then (1,1) else (o.bits,o.lanes))
 else if o.kind = 21 then (o.bits,1) else (o.bits,o.lanes)
theorem zoe {o : POp} (h : zgh o = true) : zdT o.bits o.lanes = true ∧ (zY o).2 = true ∧ (zY o).1.length = o.args.length ∧ zhh o.kind = true:=by
 unfold zgh at h;simp only [Bool.and_eq_true,decide_eq_true_eq] at h;refine ⟨h.1,h.2.1,h.2.2.2.1,?_⟩;cases a : zhh o.kind
 ·rw [zqs a] at h
  exact absurd h.2.1 (by simp)
 ·rfl
theorem zuc {o : POp} (h : zgh o = true) (a : o.kind = 14 ∨ o.kind = 15) : 0 ≤ o.imm → o.imm ≤ 64:=by
 obtain ⟨c,b,_,_⟩:=zoe h;obtain ⟨hm,e⟩:=zfV c;have d:=zds hm;unfold zY at b;rcases a with a | a
 ·simp [a,arith,asks] at b
  omega
 ·simp [a,arith,asks] at b
  omega
theorem zzi {o : POp} (h : zgh o = true) (l : 0 ≤ o.imm) : (ym o.args.length).map (zmi o) = (zY o).1:=by
 obtain ⟨m,n,d,j⟩:=zoe h;have c:=fun g => zuc h g l;rw [← d];obtain ⟨kind,bits,a,dst,args,imm⟩:=o;dsimp only at *;rcases zin j with rfl | rfl | rfl | rfl | rfl | rfl | rfl | rfl | rfl | rfl | rfl | rfl | rfl | rfl | rfl | rfl | rfl | rfl | rfl | rfl | rfl | rfl | rfl
 all_goals first
  | rfl
  | (have i:=c (.inl rfl)
     have b : min imm 128 = imm:=(by omega);simp [zY,arith,asks,zmi,b,yr]
     done)
  | (have i:=c (.inr rfl)
     have b : min imm 128 = imm:=(by omega);simp [zY,arith,asks,zmi,b,yr]
     done)
  | (have e : zmi ⟨21,bits,a,dst,args,imm⟩ = fun _ => (bits,1):=by funext k; simp [zmi]
     have f : (zY ⟨21,bits,a,dst,args,imm⟩).1 = yb a.toNat (bits,1):=(by simp [zY,arith,asks]);rw [e,f,List.map_const',List.length_range,List.length_replicate]
     done)
theorem zvS (o : POp) (v : zwG o) (hm : zgh o = true) : ∀ (d k : Nat) (a0 a2 a5 a6 a7 a8 a9 p j e i r m n c : V),o.args.length - k = d → k ≤ o.args.length →
  exec T zb3 ⟨[a0,.one (.ptr 0 0 0 0),a2,.one (.ap 1 0 (((ym k).map (zmi o)).map rs)),vI k,a5,a6,a7,a8,a9,p,j,e,i,r,m,n,c],[.cells 0 6 [cOp o],.tok 2 [k]],0,0⟩ =
   some (.exit 0,⟨[vU,vU,vU,.one (.ap 1 0 (((ym o.args.length).map (zmi o)).map rs)),vU,vU,vU,vU,vU,vU,vU,vU,vU,vU,vU,vU,vU,vU],[.cells 0 6 [cOp o],.tok 2 [o.args.length]],0,0⟩):=by
 intro d
 induction d with
 | zero =>
   intro k a0 a2 a5 a6 a7 a8 a9 p j e i r m n c y z;have u : k = o.args.length:=(by omega);subst u;rw [xl zb3 rfl,zd4];simp -implicitDefEqProofs only [go_sem,yf,yj]
 | succ d ih =>
   intro k a0 a2 a5 a6 a7 a8 a9 p j e i r m n c y z;have u : k < o.args.length:=(by omega);have:=ih (k + 1) vU vU vU vU vU vU vU vU vU vU vU vU vU vU vU (by omega) (by omega);have a : k + 1 ≤ LIM:=(by have:=v.2; unfold LIM; omega);have hlen : (((ym k).map (zmi o)).map rs).length = k:=by simp
   have e1 : ((ym k).map (zmi o)).map rs ++ [rs (zmi o k)] = ((ym (k + 1)).map (zmi o)).map rs:=by
    rw [yr,yk,yk];rfl
   have hw : o.kind = 14 ∨ o.kind = 15 → Go.IntKind.i64.wrap o.imm = o.imm:=fun h => by
    have:=zuc hm h v.1.1;have:=v.1.1;rw [wrap_i64] <;> omega
   have l:=za u v.2;have g:=ilt u;obtain ⟨A,C,B,x⟩:=zoe hm;obtain ⟨acc,t⟩ : ∃ acc,acc = ((ym k).map (zmi o)).map rs:=⟨_,rfl⟩;rw [← t] at hlen e1 ⊢;obtain ⟨kind,bits,w,dst,args,imm⟩:=o;dsimp only at *;have b : ((k : Int) = 0) = (k = 0):=(by apply propext; omega);have f : ((k : Int) = 1) = (k = 1):=(by apply propext; omega);rw [xl zb3 rfl,zd4];simp -implicitDefEqProofs only [go_sem] at this;rcases zin x with rfl | rfl | rfl | rfl | rfl | rfl | rfl | rfl | rfl | rfl | rfl | rfl | rfl | rfl | rfl | rfl | rfl | rfl | rfl | rfl | rfl | rfl | rfl
   all_goals
    by_cases s : k = 0
    ·have q : ¬ k = 1:=by omega
     simp -implicitDefEqProofs only [zmi,rs,eq_true s,q,if_true,if_false,yu,or_false,or_true,false_or,true_or,or_self,Nat.reduceEqDiff,Nat.zero_ne_one] at e1 hw;simp -implicitDefEqProofs only [go_sem,yj,g,b,f,eq_true s,q,hlen,a,l,hw,e1,this]
    ·by_cases q : k = 1
     ·simp -implicitDefEqProofs only [zmi,rs,s,eq_true q,if_true,if_false,yu,or_false,or_true,false_or,true_or,or_self] at e1 hw
      simp -implicitDefEqProofs only [go_sem,yj,g,b,f,s,eq_true q,hlen,a,l,hw,e1,this]
     ·simp -implicitDefEqProofs only [zmi,rs,s,q,if_true,if_false,yu,or_false,or_true,false_or,true_or,or_self] at e1 hw
      simp -implicitDefEqProofs only [go_sem,yj,g,b,f,s,q,hlen,a,l,hw,e1,this]
end AC
namespace AC
def tr (t : List Int) (a : Int) : Int:=t.getD a.toNat (-2)
def zaj (t : List Int) : Nat → Int → Int → Option Int
 | 0,_,_ => none
 | r + 1,n,a => if a < 0 then some (-1) else if (t.length : Int) ≤ a then some (-1) else if tr t a = -1 then some n else zaj t r (n + 1) (tr t a)
def zL (t : List Int) (a : Int) : Int:=(zaj t t.length 0 a).getD (-1)
def zaY (t : List Int) : Nat → Nat → List Int → Option Nat
 | _,n,[] => some n
 | k,n,x :: r => if x = -2 then zaY t (k + 1) n r else if zL t k < 0 then none else zaY t (k + 1) (if x = -1 then n + 1 else n) r
def zhj (t : List Int) : Bool:=zaY t 0 0 t == some 1
def inS (t : List Int) (l : List Int) : Bool:=zhj t && !l.any fun a => decide (zL t a < 0)
def zjt (t : List Int) : Nat → Int → Int → Int
 | 0,a,_ => a
 | r + 1,a,b => if a = b then a else if zL t b ≤ zL t a then zjt t r (tr t a) b else zjt t r a (tr t b)
def zyC (t : List Int) (a b : Int) : Int:=if inS t [a,b] = true then zjt t (zL t a + zL t b).toNat a b else -2
def zlU (t : List Int) (a b : Int) : Bool:=inS t [a,b] && decide (zyC t a b = a)
def inR (n : Nat) (a : Int) : Bool:=decide (0 ≤ a) && decide (a < n)
def zq2 (t at' : List Int) : Nat → Int → Int → Option Int
 | 0,_,_ => none
 | r + 1,a,b => if inR t.length a && (inR at'.length a && inR at'.length b) then (if tr at' b < tr at' a then zq2 t at' r (tr t a) b else some a) else none
def zuN (t at' : List Int) (K : Nat) : Nat → Int → Int → Option Int
 | 0,_,_ => none
 | r + 1,a,b => if a = b then some a else match zq2 t at' K a b with
   | none => none
   | some a' => match zq2 t at' K b a' with
     | none => none
     | some b' => zuN t at' K r a' b'
def znC (t at' : List Int) (K : Nat) : List Int → Int → Option Int
 | [],b => some b
 | p :: r,b => if inR t.length p = true then (if tr t p = -2 then znC t at' K r b else if b = -2 then znC t at' K r p else match zuN t at' K K b p with
   | none => none
   | some c => znC t at' K r c) else none
def ztl (pred : List (List Int)) (t at' : List Int) (K : Nat) : List Int → Option (Option (Int × Int))
 | [] => some none
 | x :: r => if inR t.length x = true then (match znC t at' K (pred.getD x.toNat []) (-2) with
   | none => none
   | some b => if tr t x = b then ztl pred t at' K r else some (some (x,b))) else none
def zhS (pred : List (List Int)) (at' : List Int) (K : Nat) (tail : List Int) : Nat → List Int → Option (List Int)
 | 0,_ => none
 | r + 1,t => match ztl pred t at' K tail with
   | none => none
   | some none => some t
   | some (some (x,b)) => zhS pred at' K tail r (t.set x.toNat b)
theorem zlX {pred : List (List Int)} {at' : List Int} {K : Nat} {tail : List Int} : ∀ {r : Nat} {t a : List Int},zhS pred at' K tail r t = some a → a.length = t.length
 | 0,_,_,h => by simp [zhS] at h
 | r + 1,t,a,h => by
   simp only [zhS] at h;split at h
   ·cases h
   ·injection h with h; rw [h]
   ·rw [zlX h]; simp
def zkW : Nat → List Int → List Int → List Int
 | _,[],at' => at'
 | i,x :: r,at' => zkW (i + 1) r (at'.set x.toNat (i : Int))
theorem zjl : ∀ (l : List Int) (i : Nat) (a : List Int),(zkW i l a).length = a.length
 | [],_,_ => rfl
 | x :: r,i,a => by rw [zkW,zjl r]; simp
def zlL (n root : Nat) : List Int:=(yb n (-2 : Int)).set root root
def at0 (n : Nat) (order : List Int) : List Int:=zkW 0 order (yb n 0)
def scan (seen : List Bool) : List Int → Nat → Option (Int × Nat)
 | [],_ => none
 | y :: r,j => if seen.getD y.toNat false = true then scan seen r (j + 1) else some (y,j + 1)
structure DF where
 seen : List Bool
 next : List Nat
 out : List Int
 stk : List Int
def zzo (succ : List (List Int)) (x : Int) : Nat:=(succ.getD x.toNat []).length
def zgZ (succ : List (List Int)) (d : DF) (x : Int) : Option (Int × Nat):=scan d.seen ((succ.getD x.toNat []).drop (d.next.getD x.toNat 0)) (d.next.getD x.toNat 0)
def dfs (succ : List (List Int)) : Nat → DF → Option (List Int)
 | 0,_ => none
 | k + 1,d => match d.stk with
   | [] => none
   | x :: s => match zgZ succ d x with
     | some (y,j) => dfs succ k ⟨d.seen.set y.toNat true,d.next.set x.toNat j,d.out,y :: x :: s⟩
     | none => match s with
       | [] => some (d.out ++ [x])
       | _ :: _ => dfs succ k ⟨d.seen,d.next.set x.toNat (zzo succ x),d.out ++ [x],s⟩
structure DInv (succ : List (List Int)) (d : DF) : Prop where
 seen : d.seen.length = 64
 next : d.next.length = 64
 le : ∀ X,X < succ.length → d.next.getD X 0 ≤ (succ.getD X []).length
 stk : ∀ x ∈ d.stk,0 ≤ x ∧ x < (succ.length : Int)
theorem zAi {seen : List Bool} : ∀ {l : List Int} {k : Nat} {y : Int} {j : Nat},scan seen l k = some (y,j) → k < j ∧ j ≤ k + l.length ∧ y ∈ l
 | [],_,_,_,h => by simp [scan] at h
 | z :: r,k,y,j,h => by
   simp only [scan] at h;split at h
   ·have:=zAi h
    simp only [yd,yz];exact ⟨by omega,by omega,.inr this.2.2⟩
   ·simp only [Option.some.injEq,Prod.mk.injEq] at h
    obtain ⟨rfl,rfl⟩:=h;simp
def zrz : List Bool:=yb 64 false
def zpf : List Nat:=yb 64 0
def zt1 (root : Int) : DF:=⟨zrz.set root.toNat true,zpf,[],[root]⟩
def zvr (i : Int) (out : List (List Int)) (x : Int) : List (List Int):=out.set x.toNat (out.getD x.toNat [] ++ [i])
theorem zgB (i : Int) (out : List (List Int)) (x : Int) : (zvr i out x).length = out.length:=by simp [zvr]
theorem zgV (i : Int) : ∀ (l : List Int) (out : List (List Int)),(l.foldl (zvr i) out).length = out.length
 | [],_ => rfl
 | x :: r,out => by rw [yw,zgV i r,zgB]
def zbr : Nat → List (List Int) → List (List Int) → List (List Int)
 | _,[],out => out
 | i,l :: r,out => zbr (i + 1) r (l.foldl (zvr i) out)
def zZ (succ : List (List Int)) : List (List Int):=zbr 0 succ (yb succ.length [])
theorem zg5 : ∀ (l : List (List Int)) (i : Nat) (out : List (List Int)),(zbr i l out).length = out.length
 | [],_,_ => rfl
 | x :: r,i,out => by rw [zbr,zg5 r,zgV]
theorem zcu (succ : List (List Int)) : (zZ succ).length = succ.length:=by rw [zZ,zg5]; simp
def zlg (succ : List (List Int)) : Prop:=succ.length ≤ 4294967296 ∧ ∀ l ∈ succ,l.length ≤ 4294967296
def z8 (n : Int) : Int → List Int → Bool
 | _,[] => true
 | last,x :: r => if x ≤ last ∨ n ≤ x then false else z8 n x r
def rising (l : List Int) (n : Int) : Bool:=z8 n (-1) l
def zbH (succ : List (List Int)) : Bool:=!(decide (succ.length < 1) || (decide (64 < succ.length) || succ.any fun l => !rising l succ.length))
def zDb (succ pred : List (List Int)) : Bool:=zbH succ && decide (zZ succ = pred)
def znV (k : Int) : Int:=if k = 0 ∨ k = 3 then 0 else if k = 1 then 1 else if k = 2 then 2 else -1
def zlT (n k : Int) : Bool:=decide (k < 1) || decide (n ≤ k)
theorem zbE {α : Type} {l : List α} {i : Nat} (v d : α) (h : i < l.length) : (l.set i v).getD i d = v:=by simp [h]
theorem getD_set_ne {α : Type} {l : List α} {i j : Nat} (v d : α) (h : i ≠ j) : (l.set i v).getD j d = l.getD j d:=by simp [List.getElem?_set_ne h]
theorem znJ (t : List Int) : ∀ (r : Nat) (n a m : Int),0 ≤ n → zaj t r n a = some m → m = -1 ∨ n ≤ m
 | 0,_,_,_,_,h => by simp [zaj] at h
 | r + 1,n,a,m,hn,h => by
   simp only [zaj] at h;split at h
   ·simp at h; omega
   split at h
   ·simp at h; omega
   split at h
   ·simp at h; omega
   ·have:=znJ t r (n + 1) _ m (by omega) h
    omega
theorem zni (t : List Int) : ∀ (r : Nat) (n a m : Int),0 ≤ n → 0 ≤ m → zaj t r (n + 1) a = some m → zaj t r n a = some (m - 1)
 | 0,_,_,_,_,_,h => by simp [zaj] at h
 | r + 1,n,a,m,hn,hm,h => by
   simp only [zaj] at h ⊢;split at h
   ·simp at h; omega
   split at h
   ·simp at h; omega
   split at h
   ·rename_i c d b
    simp only [c,d,b,if_true,if_false,Option.some.injEq] at h ⊢;omega
   ·rename_i c d b
    simp only [c,d,b,if_false];exact zni t r (n + 1) _ m (by omega) hm h
theorem znU (t : List Int) : ∀ (r : Nat) (n a m : Int),zaj t r n a = some m → zaj t (r + 1) n a = some m
 | 0,_,_,_,h => by simp [zaj] at h
 | r + 1,n,a,m,h => by
   rw [zaj] at h ⊢;split at h
   ·rename_i b; simp only [b,if_true]; exact h
   split at h
   ·rename_i b c; simp only [b,c,if_true,if_false]; exact h
   split at h
   ·rename_i b c d; simp only [b,c,d,if_true,if_false]; exact h
   ·rename_i b c d
    simp only [b,c,d,if_false];exact znU t r (n + 1) _ m h
theorem zqh {t : List Int} {a : Int} (h : 0 ≤ zL t a) : zaj t t.length 0 a = some (zL t a):=by
 unfold zL at h ⊢
 cases e : zaj t t.length 0 a with
 | none => rw [e] at h; simp at h
 | some m => rfl
theorem zhP {t : List Int} {a : Int} (h : 0 ≤ zL t a) : 0 ≤ a ∧ a < t.length:=by
 have:=zqh h
 cases b : t.length with
 | zero => rw [b] at this; simp [zaj] at this
 | succ r =>
   rw [b,zaj] at this;split at this
   ·simp at this; omega
   split at this
   ·simp at this; omega
   ·rename_i d c
    rw [b] at c;omega
theorem zlH {t : List Int} {a : Int} (b : 0 ≤ a) (d : a < t.length) (h : tr t a = -1) : zL t a = 0:=by
 unfold zL
 cases c : t.length with
 | zero => omega
 | succ r =>
   rw [zaj,if_neg (by omega),if_neg (by omega),if_pos h];rfl
theorem zfG {t : List Int} {a : Int} (h : 0 ≤ zL t a) (e : tr t a ≠ -1) : 1 ≤ zL t a ∧ zL t (tr t a) = zL t a - 1:=by
 have b:=zqh h;obtain ⟨f,g⟩:=zhP h
 cases d : t.length with
 | zero => omega
 | succ r =>
   rw [d,zaj,if_neg (by omega),if_neg (by omega),if_neg e] at b;have i:=znJ t r (0 + 1) _ _ (by omega) b;have c:=znU t r _ _ _ (zni t r 0 _ _ (by omega) h b);refine ⟨by omega,?_⟩;rw [← d] at c;rw [zL,c];rfl
theorem zhE {t : List Int} {a : Int} (h : zL t a = 0) : tr t a = -1:=by
 by_cases c : tr t a = -1
 ·exact c
 ·have:=zfG (by omega) c
  omega
theorem zf3 (t : List Int) : ∀ (l : List Int) (k n m : Nat),zaY t k n l = some m → m = n + l.count (-1)
 | [],_,_,_,h => by simp [zaY] at h; simp [h]
 | x :: r,k,n,m,h => by
   simp only [zaY] at h;split at h
   ·rename_i a
    subst a;rw [zf3 t r _ _ _ h,yp (by decide)]
   split at h
   ·cases h
   ·split at h
    ·rename_i a
     subst a;rw [zf3 t r _ _ _ h,yl];omega
    ·rename_i a
     rw [zf3 t r _ _ _ h,yp (by simpa using a)]
theorem zui {x : Int} : ∀ (l : List Int),l.count x ≤ 1 → ∀ i j (a : i < l.length) (b : j < l.length),l[i] = x → l[j] = x → i = j
 | [],_,i,_,a,_,_,_ => by simp at a
 | y :: r,h,i,j,a,b,e1,e2 => by
   have pos : ∀ k (c : k < r.length),r[k] = x → 1 ≤ r.count x:=fun k c e => by
    have : x ∈ r:=(by rw [← e]; exact ye c);exact List.count_pos_iff.2 this
   cases i with
   | zero =>
     cases j with
     | zero => rfl
     | succ j =>
       simp at e1 e2;subst e1;rw [yl] at h;have:=pos j (by simpa using b) e2;omega
   | succ i =>
     cases j with
     | zero =>
       simp at e1 e2;subst e2;rw [yl] at h;have:=pos i (by simpa using a) e1;omega
     | succ j =>
       have d : r.count x ≤ 1:=by
        rw [List.count_cons] at h;omega
       rw [zui r d i j (by simpa using a) (by simpa using b) (by simpa using e1) (by simpa using e2)]
theorem zt9 {t : List Int} (h : zhj t = true) {a b : Int} (f : 0 ≤ a ∧ a < t.length) (g : 0 ≤ b ∧ b < t.length) (ea : tr t a = -1) (eb : tr t b = -1) : a = b:=by
 have e : zaY t 0 0 t = some 1:=by simpa [zhj] using h
 have i:=zf3 t t 0 0 1 e;have d : a.toNat < t.length:=by omega
 have c : b.toNat < t.length:=by omega
 have:=zui t (x:=-1) (by omega) a.toNat b.toNat d c (by simpa [tr,d] using ea) (by simpa [tr,c] using eb);omega
theorem zGN {t : List Int} {a b : Int} (h : inS t [a,b] = true) : zhj t = true ∧ 0 ≤ zL t a ∧ 0 ≤ zL t b:=by
 simp [inS] at h;exact ⟨h.1,by omega,by omega⟩
end AC
namespace AC
open Go Go.A Go.A.Lex
@[go_sem] theorem zz6 (k : Int) : call T 143 [vI k] [] = some (vI (znV k),[]):=by
  rw [ze (fn:=zfP) rfl]
  by_cases c0 : k = 0
  ·simp -implicitDefEqProofs only [go_sem,zfP,znV,c0]
  by_cases c3 : k = 3
  ·simp -implicitDefEqProofs only [go_sem,zfP,znV,c0,c3]
  by_cases c1 : k = 1
  ·simp -implicitDefEqProofs only [go_sem,zfP,znV,c0,c3,c1]
  by_cases c2 : k = 2 <;> simp -implicitDefEqProofs only [go_sem,zfP,znV,c0,c3,c1,c2]
theorem zvT (l : List Int) (n : Int) (c : l.length ≤ 4294967296) : ∀ (d k : Nat) (last : Int) (a0 a2 a4 a8 a9 : V),l.length - k = d → k ≤ l.length →
  exec T zf8 ⟨[a0,vI n,a2,vI last,a4,vIs l,vI l.length,vI k,a8,a9],[],0,0⟩ =
   some (if z8 n last (l.drop k) = true then (.exit 0,⟨[vU,vU,vU,vU,vU,vU,vU,vU,vU,vU],[],0,0⟩) else (.ret,⟨[vU,vU,vB false,vU,vU,vU,vU,vU,vU,vU],[],0,0⟩)):=by
 intro d
 induction d with
 | zero =>
   intro k last a0 a2 a4 a8 a9 b e;have a : k = l.length:=(by omega);subst a;rw [xl zf8 rfl,zhX];simp -implicitDefEqProofs only [go_sem,yf,yg,z8]
 | succ d ih =>
   intro k last a0 a2 a4 a8 a9 b e;have a : k < l.length:=(by omega);have hd : l.drop k = l[k] :: l.drop (k + 1):=ya a;rw [xl zf8 rfl,zhX,hd]
   by_cases c1 : l[k] ≤ last
   ·simp -implicitDefEqProofs only [go_sem,ilt a,zy a,ri,c1,z8]
   ·by_cases c2 : n ≤ l[k]
    ·simp -implicitDefEqProofs only [go_sem,ilt a,zy a,ri,c1,c2,z8]
    ·simp -implicitDefEqProofs only [go_sem,ilt a,zy a,ri,c1,c2,z8,za a c]
     exact ih (k + 1) l[k] _ _ _ _ _ (by omega) (by omega)
@[go_sem] theorem zou (l : List Int) (n : Int) (b : l.length ≤ 4294967296) : call T 180 [vIs l,vI n] [] = some (vB (rising l n),[]):=by
  rw [ze (fn:=ziD) rfl];have h:=fun a0 a2 a4 a8 a9 => zvT l n b l.length 0 (-1) a0 a2 a4 a8 a9 (by omega) (by omega);simp only [yh,yc] at h;cases a : z8 n (-1) l <;> simp -implicitDefEqProofs only [go_sem,a] at h <;> simp -implicitDefEqProofs only [go_sem,ziD,rising,h,a]
theorem zry (l m : List Int) (g : l.length = m.length) (f : l.length ≤ 4294967296) (σ : zd) : ∀ (d k : Nat) (a2 a3 a4 a7 a8 : V),l.length - k = d → k ≤ l.length →
  exec T zdz ⟨[vIs l,vIs m,a2,a3,a4,vI l.length,vI k,a7,a8],σ,σ.length,σ.length⟩ =
   some (if l.drop k = m.drop k then (.exit 0,⟨[vU,vU,vU,vU,vU,vU,vU,vU,vU],σ,σ.length,σ.length⟩) else (.ret,⟨[vU,vU,vB false,vU,vU,vU,vU,vU,vU],σ,σ.length,σ.length⟩)):=by
 intro d
 induction d with
 | zero =>
   intro k a2 a3 a4 a7 a8 h i;have a : k = l.length:=(by omega);subst a;have e : m.drop l.length = []:=(by simp [g]);rw [xl zdz rfl,zfK,e];simp -implicitDefEqProofs only [go_sem,yf,yg]
 | succ d ih =>
   intro k a2 a3 a4 a7 a8 h i;have a : k < l.length:=(by omega);have b : k < m.length:=(by omega);have hd : l.drop k = l[k] :: l.drop (k + 1):=ya a;have c : m.drop k = m[k] :: m.drop (k + 1):=ya b;rw [xl zdz rfl,zfK,hd,c]
   by_cases c1 : l[k] = m[k]
   ·simp -implicitDefEqProofs only [go_sem,ilt a,zy a,zy b,ri,c1,za a f,List.cons.injEq]
    exact ih (k + 1) _ _ _ _ _ (by omega) (by omega)
   ·simp -implicitDefEqProofs only [go_sem,ilt a,zy a,zy b,ri,c1,List.cons.injEq,false_and]
@[go_sem] theorem zl6 (l m : List Int) (σ : zd) (d : l.length ≤ 4294967296) : call T 184 [vIs l,vIs m] σ = some (vB (decide (l = m)),σ):=by
  rw [ze (fn:=zcH) rfl]
  by_cases b : l.length = m.length
  ·have h:=fun a2 a3 a4 a7 a8 => zry l m b d σ l.length 0 a2 a3 a4 a7 a8 (by omega) (by omega)
   have c : ((l.length : Int) = (m.length : Int)) = True:=(by simp [b]);simp only [yh,yc] at h
   by_cases he : l = m
   ·subst he
    simp -implicitDefEqProofs only [go_sem] at h;simp -implicitDefEqProofs only [go_sem,zcH,h]
   ·simp -implicitDefEqProofs only [go_sem,he] at h
    simp -implicitDefEqProofs only [go_sem,zcH,h,he,c]
  ·have he : ¬ l = m:=fun h => b (by rw [h])
   have a : ¬ (l.length : Int) = (m.length : Int):=(by omega);simp -implicitDefEqProofs only [go_sem,zcH,a,he]
theorem zrl (l m : List (List Int)) (n : l.length = m.length) (j : l.length ≤ 4294967296) (i : ∀ x ∈ l,x.length ≤ 4294967296) (σ : zd) : ∀ (d k : Nat) (a0 a3 a4 a5 a6 a7 c b : V),l.length - k = d → k ≤ l.length →
  exec T zbn ⟨[a0,vLs m,vFn 184 [],a3,a4,a5,a6,a7,vLs l,vI l.length,vI k,c,b],σ,σ.length,σ.length⟩ =
   some (if l.drop k = m.drop k then (.exit 0,⟨[vU,vU,vU,vU,vU,vU,vU,vU,vU,vU,vU,vU,vU],σ,σ.length,σ.length⟩) else (.ret,⟨[vU,vU,vU,vB false,vU,vU,vU,vU,vU,vU,vU,vU,vU],σ,σ.length,σ.length⟩)):=by
 intro d
 induction d with
 | zero =>
   intro k a0 a3 a4 a5 a6 a7 c b o p;have a : k = l.length:=(by omega);subst a;have e : m.drop l.length = []:=(by simp [n]);rw [xl zbn rfl,zdw,e];simp -implicitDefEqProofs only [go_sem,yf,yg]
 | succ d ih =>
   intro k a0 a3 a4 a5 a6 a7 c b o p;have a : k < l.length:=(by omega);have f : k < m.length:=(by omega);have hd : l.drop k = l[k] :: l.drop (k + 1):=ya a;have h : m.drop k = m[k] :: m.drop (k + 1):=ya f;have g:=zl6 l[k] m[k] σ (i _ (ye a));rw [xl zbn rfl,zdw,hd,h]
   by_cases c1 : l[k] = m[k]
   ·simp -implicitDefEqProofs only [go_sem,c1] at g
    simp -implicitDefEqProofs only [go_sem,ilt a,zy a,zy f,rl,c1,g,za a j,List.cons.injEq];exact ih (k + 1) _ _ _ _ _ _ _ _ (by omega) (by omega)
   ·simp -implicitDefEqProofs only [go_sem,c1] at g
    simp -implicitDefEqProofs only [go_sem,ilt a,zy a,zy f,rl,c1,g,List.cons.injEq,false_and]
@[go_sem] theorem zms (l m : List (List Int)) (σ : zd) (g : l.length ≤ 4294967296) (e : ∀ x ∈ l,x.length ≤ 4294967296) : call T 183 [vLs l,vLs m,vFn 184 []] σ = some (vB (decide (l = m)),σ):=by
  rw [ze (fn:=zaL) rfl]
  by_cases d : l.length = m.length
  ·have h:=fun a0 a3 a4 a5 a6 a7 c b => zrl l m d g e σ l.length 0 a0 a3 a4 a5 a6 a7 c b (by omega) (by omega)
   have f : ((l.length : Int) = (m.length : Int)) = True:=(by simp [d]);simp only [yh,yc] at h
   by_cases he : l = m
   ·subst he
    simp -implicitDefEqProofs only [go_sem] at h;simp -implicitDefEqProofs only [go_sem,zaL,h]
   ·simp -implicitDefEqProofs only [go_sem,he] at h
    simp -implicitDefEqProofs only [go_sem,zaL,h,he,f]
  ·have he : ¬ l = m:=fun h => d (by rw [h])
   have a : ¬ (l.length : Int) = (m.length : Int):=(by omega);simp -implicitDefEqProofs only [go_sem,zaL,a,he]
def apR : Nat → List (List Int) → List (List C)
 | _,[] => []
 | q,l :: r => [.ap 0 q (l.map ri)] :: apR (q + 1) r
theorem zi1 : ∀ (out : List (List Int)) (q : Nat),(apR q out).length = out.length
 | [],_ => rfl
 | l :: r,q => by simp [apR,zi1 r (q + 1)]
theorem zwZ : ∀ (out : List (List Int)) (q k : Nat) (h : k < out.length),(apR q out)[k]? = some [.ap 0 (q + k) (out[k].map ri)]
 | [],_,_,h => by simp at h
 | l :: r,q,0,_ => by simp [apR]
 | l :: r,q,k + 1,h => by
   simp only [apR,List.getElem?_cons_succ,List.getElem_cons_succ];rw [zwZ r (q + 1) k (by simpa using h),yx,yA 1 k]
theorem zBt : ∀ (out : List (List Int)) (q k : Nat) (l : List Int),(apR q out).set k [.ap 0 (q + k) (l.map ri)] = apR q (out.set k l)
 | [],_,_,_ => rfl
 | x :: r,q,0,l => by simp [apR]
 | x :: r,q,k + 1,l => by
   simp only [apR,List.set_cons_succ];rw [← zBt r (q + 1) k l,yx,yA 1 k]
theorem zB0 : ∀ (out : List (List Int)) (q : Nat),za6 (apR q out) = some (out.map rl)
 | [],_ => rfl
 | x :: r,q => by simp [apR,za6,zfR,zyz,zg6,zB0 r (q + 1),rl]
theorem zF9 (n : Nat) : (ym n).map (nest 0 [.f (.sl [])] 0) = apR 0 (yb n []):=by
 apply List.ext_getElem?;intro k
 by_cases a : k < n
 ·rw [zwZ _ _ _ (by simpa using a)]
  simp [a,nest]
 ·rw [yq (by simp; omega),yq (by rw [zi1]; simp; omega)]
theorem zCZ {i : Int} {out : List (List Int)} {x : Int} {B : Nat} (h : ∀ y ∈ out,y.length ≤ B) : ∀ y ∈ zvr i out x,y.length ≤ B + 1:=by
 intro y b;rcases List.mem_or_eq_of_mem_set b with a | a
 ·have:=h y a
  omega
 ·subst a
  simp only [List.length_append,yd,List.length_nil,List.getD_eq_getElem?_getD]
  cases e : out[x.toNat]? with
  | none => simp
  | some z =>
    have:=h z (List.mem_of_getElem? e);simp;omega
theorem ztU (i : Int) : ∀ (l : List Int) (out : List (List Int)) (B : Nat),(∀ y ∈ out,y.length ≤ B) → ∀ y ∈ l.foldl (zvr i) out,y.length ≤ B + l.length
 | [],_,_,h => h
 | x :: r,out,B,h => fun y a => by
   have:=ztU i r (zvr i out x) (B + 1) (zCZ h) y a;simp only [yd];omega
abbrev pst (out : List (List Int)) : zd:=[.tok 1 (out.map yn),.cells 0 1 (apR 0 out)]
theorem zDB (succ : List (List Int)) (i n : Nat) (l : List Int) (v : l.length ≤ 4294967296) (z : ∀ x ∈ l,0 ≤ x ∧ x < n) : ∀ (d k : Nat) (out : List (List Int)) (B : Nat) (a0 a1 a4 a5 a9 b : V),l.length - k = d → k ≤ l.length → out.length = n →
  (∀ y ∈ out,y.length ≤ B) → B + d ≤ 4294967296 →
  exec T zgM ⟨[a0,a1,.one (.own 1 0 0 n),vI i,a4,a5,vLs succ,vI succ.length,vI i,a9,vIs l,vI l.length,vI k,b],pst out,0,0⟩ =
   some (.exit 2,⟨[vU,vU,.one (.own 1 0 0 n),vU,vU,vU,vLs succ,vI succ.length,vI i,vU,vU,vU,vU,vU],pst ((l.drop k).foldl (zvr i) out),0,0⟩):=by
 intro d
 induction d with
 | zero =>
   intro k out B a0 a1 a4 a5 a9 b A C r p w;have c : k = l.length:=(by omega);subst c;rw [xl zgM rfl,ziL];simp -implicitDefEqProofs only [go_sem,yf,yg,List.foldl_nil]
 | succ d ih =>
   intro k out B a0 a1 a4 a5 a9 b A C r p w;have c : k < l.length:=(by omega);have hd : l.drop k = l[k] :: l.drop (k + 1):=ya c;obtain ⟨u,D⟩:=z _ (ye c);generalize hxe : l[k] = x at *;obtain ⟨j,rfl⟩ : ∃ j : Nat,x = j:=⟨x.toNat,by omega⟩;have f : j < out.length:=(by omega);have g : ((j : Int) < (n : Int)) = True:=(by simp; omega);have o:=zwZ out 0 j f;have s:=fun m => zBt out 0 j m;simp only [Nat.zero_add] at o s;have t : (out.map yn)[j]? = some out[j].length:=by simp [f]
   have e : out[j].length + 1 ≤ LIM:=by
    have:=p _ (ye f);unfold LIM;omega
   have a : zvr i out j = out.set j (out[j] ++ [(i : Int)]):=(by simp [zvr,f]);have q : (l.map ri)[k]? = some (ri (j : Int)):=(by rw [zy c,hxe]);rw [xl zgM rfl,ziL,hd,yw];simp -implicitDefEqProofs only [go_sem,ilt c,q,ri,u,g,yt,o,t,e,zi1,yk,yC];have e1 : yE ri out[j] ++ [[Fz.lit (Value.int .i64 (i : Int))]] = yE ri (out[j] ++ [(i : Int)]):=(by simp [ri]);rw [e1];simp -implicitDefEqProofs only [go_sem,s,zi1,za c v,o]
   have h : ∀ y ∈ out.set j (out[j] ++ [(i : Int)]),y.length ≤ B + 1:=by
    rw [← a];exact zCZ p
   have:=ih (k + 1) (out.set j (out[j] ++ [(i : Int)])) (B + 1) vU vU vU vU vU vU (by omega) (by omega) (by simpa using r) h (by omega);rw [a];simp -implicitDefEqProofs only [go_sem,pst,yC] at this ⊢;exact this
theorem zEx (succ : List (List Int)) (n : succ.length ≤ 4294967296) (m : ∀ l ∈ succ,l.length ≤ 4294967296) (o : ∀ l ∈ succ,∀ x ∈ l,0 ≤ x ∧ x < succ.length) : ∀ (d k : Nat) (out : List (List Int)) (B : Nat) (a0 a1 a3 a4 a5 a9 f e b a : V),succ.length - k = d → k ≤ succ.length → out.length = succ.length →
  (∀ y ∈ out,y.length ≤ B) → B + ((succ.drop k).map yn).sum ≤ 4294967296 →
  exec T zgF ⟨[a0,a1,.one (.own 1 0 0 succ.length),a3,a4,a5,vLs succ,vI succ.length,vI k,a9,f,e,b,a],pst out,0,0⟩ =
   some (.exit 0,⟨[vU,vU,.one (.own 1 0 0 succ.length),vU,vU,vU,vU,vU,vU,vU,vU,vU,vU,vU],pst (zbr k (succ.drop k) out),0,0⟩):=by
 intro d
 induction d with
 | zero =>
   intro k out B a0 a1 a3 a4 a5 a9 f e b a p q h g i;have c : k = succ.length:=(by omega);subst c;rw [xl zgF rfl,ziK];simp -implicitDefEqProofs only [go_sem,yf,yg,zbr]
 | succ d ih =>
   intro k out B a0 a1 a3 a4 a5 a9 f e b a p q h g i;have c : k < succ.length:=(by omega);have hd : succ.drop k = succ[k] :: succ.drop (k + 1):=ya c;have hm:=ye c;rw [hd,List.map_cons,yB] at i;have j:=fun a0 a1 a4 a5 a9 a => zDB succ k succ.length succ[k] (m _ hm) (o _ hm) succ[k].length 0 out B a0 a1 a4 a5 a9 a (by omega) (by omega) h g (by omega);have:=ih (k + 1) (succ[k].foldl (zvr k) out) (B + succ[k].length) vU vU vU vU vU vU vU vU vU vU (by omega) (by omega) (by rw [zgV,h]) (ztU _ _ _ _ g) (by omega);rw [xl zgF rfl,ziK,hd,zbr];simp -implicitDefEqProofs only [go_sem,pst,yh,yc] at j this;simp -implicitDefEqProofs only [go_sem,ilt c,zy c,rl,pst,j,za c n];exact this
theorem zyn (succ : List (List Int)) (k : succ.length ≤ 4294967296) (j : ∀ l ∈ succ,l.length ≤ 4294967296) (m : ∀ l ∈ succ,∀ x ∈ l,0 ≤ x ∧ x < succ.length) (i : (succ.map yn).sum ≤ 4294967296) :
  call T 182 [vLs succ] [] = some (vLs (zZ succ),[]):=by
 rw [ze (fn:=zjI) rfl];have h:=fun a0 a1 a3 a4 a5 a9 f d b c => zEx succ k j m succ.length 0 (yb succ.length []) 0 a0 a1 a3 a4 a5 a9 f d b c (by omega) (by omega) (by simp) (fun y g => by rw [(List.mem_replicate.1 g).2]; simp) (by simpa using i);have hlen : (apR 0 (zbr 0 succ (yb succ.length []))).length = succ.length:=by rw [zi1,zg5]; simp
 have a : (succ.length : Int) ≤ (LIM : Int):=by unfold LIM; omega
 have e : (apR 0 (zbr 0 succ (yb succ.length []))).take succ.length = apR 0 (zbr 0 succ (yb succ.length [])):=yo (by omega);simp -implicitDefEqProofs only [go_sem,pst,yh,yc,List.map_replicate] at h;simp -implicitDefEqProofs only [go_sem,zjI,a,zF9,h,ys,yt,e,zB0,zZ]
theorem ztV {f : Nat} {g : List V → zd → Option (V × zd)} (h : T f = some (.ext g)) (args : List V) (σ : zd) : call T f args σ = g args σ:=by
 simp only [call,zgi,h]
theorem zv0 (l : List Int) : ztX 1 (l.map ri) = true:=by
 induction l with
 | nil => rfl
 | cons x r ih => simp [ztX,ri,ih]
@[go_sem] theorem zrr (l : List Int) (a : l.length ≤ 4294967296) : call T 181 [vIs l] [] = some (vIs l,[]):=by
  rw [ztV (g:=zkp 1) rfl];simp [zkp,zpq,zv0,LIM,a]
theorem zoh (l : List Int) (n : Int) (a : l.length ≤ 4294967296) (o : Ob) (r : zd) : call T 179 [vIs l,.one (.ptr 1 0 0 0)] (o :: .cells 0 1 [[.f (ei n)]] :: r) = some (vB (!rising l n),o :: .cells 0 1 [[.f (ei n)]] :: r):=by
 rw [ze (fn:=ziF) rfl];have h:=zou l n a;simp -implicitDefEqProofs only [go_sem] at h;simp -implicitDefEqProofs only [go_sem,ziF,h]
theorem zoa (n : Int) : ∀ (l : List Int) (last : Int),z8 n last l = true → ∀ x ∈ l,last < x ∧ x < n
 | [],_,_,x,h => by simp at h
 | y :: r,last,h,x,a => by
   simp only [z8] at h;split at h
   ·cases h
   ·rename_i b
    rcases yz.1 a with rfl | a
    ·omega
    ·have:=zoa n r y h x a
     omega
theorem zsh (n : Int) : ∀ (l : List Int) (last : Int),z8 n last l = true → -1 ≤ last → last < n → (l.length : Int) ≤ n - last - 1
 | [],last,_,h1,h2 => by simp; omega
 | y :: r,last,h,h1,h2 => by
   simp only [z8] at h;split at h
   ·cases h
   ·rename_i a
    have:=zsh n r y h (by omega) (by omega);simp only [yd];omega
theorem zgW {succ : List (List Int)} (h : zbH succ = true) : 1 ≤ succ.length ∧ succ.length ≤ 64 ∧ ∀ l ∈ succ,rising l succ.length = true:=by
 simp only [zbH,yv,Bool.or_eq_false_iff,decide_eq_false_iff_not,List.any_eq_false,yv,Bool.not_eq_false] at h;exact ⟨by omega,by omega,fun l a => by simpa using h.2.2 l a⟩
theorem zrT (B : Nat) : ∀ l : List Nat,(∀ x ∈ l,x ≤ B) → l.sum ≤ B * l.length
 | [],_ => by simp
 | x :: r,h => by
   have b:=h x (by simp);have c:=zrT B r fun y a => h y (by simp [a]);simp only [yB,yd,Nat.mul_add];omega
theorem zBO (succ : List (List Int)) (l : zlg succ) (o : succ.length ≤ 64) (o0 g : Ob) (h : o0.lt 3 = true) (j : g.lt 3 = true) : ∀ (d k : Nat) (a0 a2 a3 a5 a6 b : V),succ.length - k = d → k ≤ succ.length →
  exec T zhq ⟨[a0,.one (.ptr 0 0 0 0),a2,a3,.one (.ap 2 0 ((succ.take k).map rl)),a5,a6,vLs succ,vI succ.length,vI k,b],[o0,g,.tok 1 [k]],0,0⟩ =
   some (.exit 0,⟨[vU,.one (.ptr 0 0 0 0),vU,vU,.one (.ap 2 0 (succ.map rl)),vU,vU,vU,vU,vU,vU],[o0,g,.tok 1 [succ.length]],0,0⟩):=by
 intro d
 induction d with
 | zero =>
   intro k a0 a2 a3 a5 a6 b m n;have a : k = succ.length:=(by omega);subst a;rw [xl zhq rfl,zjC];simp -implicitDefEqProofs only [go_sem,yf,List.take_length]
 | succ d ih =>
   intro k a0 a2 a3 a5 a6 b m n;have a : k < succ.length:=(by omega);have i:=zrr succ[k] (l.2 _ (ye a));have f : (succ.take k).length = k:=(by simp; omega);have c : k + 1 ≤ LIM:=by unfold LIM; omega
   have e : (succ.take k).map rl ++ [[Fz.sl (succ[k].map ri)]] = (succ.take (k + 1)).map rl:=by
    rw [yi a,yk];rfl
   rw [xl zhq rfl,zjC];simp -implicitDefEqProofs only [go_sem] at i;simp -implicitDefEqProofs only [go_sem,ilt a,zy a,rl,i,f,c,za a l.1];have:=ih (k + 1) vU vU vU vU vU vU (by omega) (by omega);rw [← e] at this;simp -implicitDefEqProofs only [go_sem] at this;exact this
def zkE (succ : List (List Int)) : V:=if zbH succ = true then .tup [.agg [.f (.sl (succ.map rl)),.f (.sl ((zZ succ).map rl))],vI 0] else .tup [.agg [.f (.sl []),.f (.sl [])],vI 5]
theorem zhA {succ : List (List Int)} (h : zbH succ = true) : (succ.map yn).sum ≤ 4294967296:=by
 obtain ⟨e,d,a⟩:=zgW h
 have:=zrT 64 (succ.map yn) (fun x c => by
  obtain ⟨l,b,rfl⟩:=yD.1 c;have:=zsh _ _ _ (a l b) (by omega) (by omega)
  omega)
 rw [yj] at this;have f : 64 * succ.length ≤ 64 * 64:=Nat.mul_le_mul_left _ d;omega
@[go_sem] theorem zk7 (succ : List (List Int)) (g : zlg succ) : call T 147 [vLs succ] [] = some (zkE succ,[]):=by
  rw [ze (fn:=zfQ) rfl];have d:=zka succ (fun l => !rising l succ.length) 179 [] [.ptr 1 0 0 0] [.cells 0 2 [[.f (.sl []),.f (.sl [])]],.cells 0 1 [[.f (ei succ.length)]]] g.1 (fun x j => zoh x _ (g.2 x j) _ _);simp -implicitDefEqProofs only [go_sem] at d
  by_cases c1 : succ.length < 1
  ·have a : (succ.length : Int) < 1:=by omega
   simp -implicitDefEqProofs only [go_sem,zfQ,zkE,zbH,c1,a]
  have a : ¬ (succ.length : Int) < 1:=by omega
  by_cases c2 : 64 < succ.length
  ·have b : (64 : Int) < (succ.length : Int):=by omega
   simp -implicitDefEqProofs only [go_sem,zfQ,zkE,zbH,c1,a,c2,b]
  have b : ¬ (64 : Int) < (succ.length : Int):=by omega
  cases c3 : succ.any fun l => !rising l succ.length
  ·have c : zbH succ = true:=by simp [zbH,c1,c2,c3]
   obtain ⟨o,m,n⟩:=zgW c;have h:=fun a0 a2 a3 a5 a6 i => zBO succ g m (.cells 0 2 [[.f (.sl []),.f (.sl [])]]) (.cells 0 1 [[.f (ei succ.length)]]) rfl rfl succ.length 0 a0 a2 a3 a5 a6 i (by omega) (by omega);have k:=zyn succ g.1 g.2 (fun l h x j => by have:=zoa _ _ _ (n l h) x j; omega) (zhA c);have e : (succ.length : Int) ≤ (LIM : Int):=(by unfold LIM; omega);simp -implicitDefEqProofs only [go_sem,yy,yc] at h k;simp -implicitDefEqProofs only [go_sem,zfQ,a,b,d,c3,e,ys,h,k,zkE,c]
  ·simp -implicitDefEqProofs only [go_sem,zfQ,zkE,zbH,c1,a,c2,b,d,c3]
theorem zrL (l : List Int) : zhC (l.map ri) = some l:=by
 induction l with
 | nil => rfl
 | cons x r ih => simp [zhC,zxb,ri,zg6,ih]
theorem zf0 (l : List Int) : za6 (l.map zG) = some (l.map ri):=by
 induction l with
 | nil => rfl
 | cons x r ih => simp [za6,zfR,zyz,zG,zg6,ih,ri]
theorem zvW (l : List Int) (b : l.length ≤ 4294967296) (σ : zd) (id : Nat) (a : σ[id]? = some (.cells 0 1 [[.f (.sl (l.map ri))]])) :
  call T 145 [.one (.fn 177 [] [.ptr id 0 0 0])] σ = some (.one (.own σ.length 0 0 l.length),σ ++ [.cells 0 1 ((zkA l).map zG)]):=by
 rw [ztV (g:=zkk 177) rfl];simp [zkk,zd.cell,zd.elem,a,Ob.elem,zsC,zrL,ztQ,LIM,b]
theorem zvc (l : List Int) (n : Nat) (c : l.length = n) (b : n ≤ 4294967296) (σ : zd) (id : Nat) (a : σ[id]? = some (.cells 0 1 (l.map zG))) :
  call T 118 [.one (.own id 0 0 n)] σ = some (vIs (zai l),σ.set id (.cells 1 1 [])):=by
 rw [ztV (g:=zja) rfl];subst c;simp [zja,a,zoB,LIM,b,zf0,zrL,zoy,vsl];exact fun _ _ => rfl
@[go_sem] theorem zv4 (l : List Int) : call T 146 [vIs l] [] = some (.one (.fn 177 [] [.ptr 0 0 0 0]),[.cells 0 1 [[.f (.sl (l.map ri))]]]):=by
  rw [ze (fn:=zfF) rfl];simp -implicitDefEqProofs only [go_sem,zfF]
theorem zoS (l : List Int) : (zkA l).length = l.length:=List.length_mergeSort l
theorem zqt (k n : Int) (o0 a : Ob) (r : zd) : call T 144 [vI k,.one (.ptr 2 0 0 0)] (o0 :: a :: .cells 0 1 [[.f (ei n)]] :: r) = some (vB (zlT n k),o0 :: a :: .cells 0 1 [[.f (ei n)]] :: r):=by
 rw [ze (fn:=zih) rfl]
 by_cases c : k < 1
 ·simp -implicitDefEqProofs only [go_sem,zih,zlT,c]
 ·by_cases d : n ≤ k <;> simp -implicitDefEqProofs only [go_sem,zih,zlT,c,d]
def zjZ (n : Nat) (b : PBlock) : Bool:=decide (znV b.kind = b.to.length) && !b.to.any (zlT n)
def zjV (n : Nat) : Nat → List PBlock → Option (Nat × PBlock)
 | _,[] => none
 | k,b :: r => if zjZ n b = true then zjV n (k + 1) r else some (k,b)
def zvz (l : List Int) : List Int:=zai (zkA l)
def zo (f : PFunc) : List (List Int):=f.blocks.map fun b => zvz b.to
theorem zGt (f : PFunc) (n : okF f) (t : f.blocks.length ≤ 64) : ∀ (d k : Nat) (a0 a1 a3 a6 a7 g c : V),f.blocks.length - k = d → k ≤ f.blocks.length →
  exec T zjm ⟨[a0,a1,.one (.ptr 1 0 0 0),a3,.one (.ptr 2 0 0 0),.one (.ap 3 0 (((zo f).take k).map rl)),a6,a7,vL (f.blocks.map rb),vI f.blocks.length,vI k,g,c],[.cells 0 3 [zcz f],.cells 0 2 [[.f (.sl []),.f (.sl [])]],.cells 0 1 [[.f (ei f.blocks.length)]],.tok 1 [k]],0,0⟩ =
   some (match zjV f.blocks.length k (f.blocks.drop k) with
    | none => (.exit 0,⟨[vU,vU,.one (.ptr 1 0 0 0),vU,vU,.one (.ap 3 0 ((zo f).map rl)),vU,vU,vU,vU,vU,vU,vU],[.cells 0 3 [zcz f],.cells 0 2 [[.f (.sl []),.f (.sl [])]],.cells 0 1 [[.f (ei f.blocks.length)]],.tok 1 [f.blocks.length]],0,0⟩)
    | some (j,b) => (.ret,⟨[vU,vU,.one (.ptr 1 0 0 0),vI 5,vU,vU,vU,vU,vU,vU,vU,vU,vU],[.cells 0 3 [zcz f],.cells 0 2 [[.f (.sl []),.f (.sl [])]],.cells 0 1 [[.f (ei f.blocks.length)]],.tok 1 [j],.cells 0 5 [zw b]],0,0⟩)):=by
 intro d
 induction d with
 | zero =>
   intro k a0 a1 a3 a6 a7 g c s r;have a : k = f.blocks.length:=(by omega);subst a;have e : (zo f).take f.blocks.length = zo f:=yo (by simp [zo]);rw [xl zjm rfl,zmr,e];simp -implicitDefEqProofs only [go_sem,yf,yg,zjV]
 | succ d ih =>
   intro k a0 a1 a3 a6 a7 g c s r;have a : k < f.blocks.length:=(by omega);have hd : f.blocks.drop k = f.blocks[k] :: f.blocks.drop (k + 1):=ya a;have hm:=n.block _ (ye a);rw [xl zjm rfl,zmr,hd,zjV]
   by_cases c1 : znV f.blocks[k].kind = f.blocks[k].to.length
   ·have l:=zba f.blocks[k].to (zlT f.blocks.length) 144 [] [.ptr 2 0 0 0] [.cells 0 3 [zcz f],.cells 0 2 [[.f (.sl []),.f (.sl [])]],.cells 0 1 [[.f (ei f.blocks.length)]],.tok 1 [k],.cells 0 5 [zw f.blocks[k]]] hm.to (fun x _ => zqt x _ _ _ _)
    cases c2 : f.blocks[k].to.any (zlT f.blocks.length)
    ·have m : ((zo f).take k).length = k:=by simp [zo]; omega
     have h : k + 1 ≤ LIM:=(by unfold LIM; omega);have o:=zv4 f.blocks[k].to;have p:=zvW f.blocks[k].to hm.to [.cells 0 3 [zcz f],.cells 0 2 [[.f (.sl []),.f (.sl [])]],.cells 0 1 [[.f (ei f.blocks.length)]],.tok 1 [k],.cells 0 5 [zw f.blocks[k]],.cells 0 1 [[.f (.sl (f.blocks[k].to.map ri))]]] 5 rfl;have i:=zvc (zkA f.blocks[k].to) f.blocks[k].to.length (zoS _) hm.to [.cells 0 3 [zcz f],.cells 0 2 [[.f (.sl []),.f (.sl [])]],.cells 0 1 [[.f (ei f.blocks.length)]],.tok 1 [k],.cells 0 5 [zw f.blocks[k]],.cells 0 1 [[.f (.sl (f.blocks[k].to.map ri))]],.cells 0 1 ((zkA f.blocks[k].to).map zG)] 6 rfl
     have e : ((zo f).take k).map rl ++ [[Fz.sl ((zai (zkA f.blocks[k].to)).map ri)]] = ((zo f).take (k + 1)).map rl:=by
      rw [yi (by simpa [zo] using a),yk];simp [zo,rl,zvz]
     have:=ih (k + 1) vU vU vU vU vU vU vU (by omega) (by omega);rw [← e] at this;simp -implicitDefEqProofs only [go_sem] at l o p i this;simp -implicitDefEqProofs only [go_sem,ilt a,zy a,rb,c1,l,c2,zjZ,o,p,i,m,h,za a n.blocks] at this ⊢;exact this
    ·simp -implicitDefEqProofs only [go_sem] at l
     simp -implicitDefEqProofs only [go_sem,ilt a,zy a,rb,c1,l,c2,zjZ]
   ·have q : ¬ znV f.blocks[k].kind = (f.blocks[k].to.length : Int):=c1
    simp -implicitDefEqProofs only [go_sem,ilt a,zy a,rb,c1,zjZ]
theorem zoU (n : Nat) : ∀ (bs : List PBlock) (k : Nat),(zjV n k bs).isNone = bs.all (zjZ n)
 | [],_ => rfl
 | b :: r,k => by
   simp only [zjV,List.all_cons];cases h : zjZ n b
   ·simp
   ·simpa using zoU n r (k + 1)
theorem zks : ∀ l : List Int,(zai l).length ≤ l.length
 | [] => by simp [zai]
 | [x] => by simp [zai]
 | x :: y :: r => by
   have:=zks (y :: r);simp only [zai];split
   ·simp only [yd] at this ⊢; omega
   ·simp only [yd] at this ⊢; omega
theorem zvw (l : List Int) : (zvz l).length ≤ l.length:=by
 have:=zks (zkA l)
 rwa [zoS] at this
theorem ziW {f : PFunc} (a : okF f) : zlg (zo f):=by
 refine ⟨by simpa [zo] using a.blocks,fun l d => ?_⟩;obtain ⟨b,c,rfl⟩:=yD.1 d;have:=zvw b.to;have:=(a.block b c).to;omega
def zaM (f : PFunc) : Bool:=!decide (64 < f.blocks.length) && (f.blocks.all (zjZ f.blocks.length) && zbH (zo f))
def zhg (f : PFunc) : V:=if zaM f = true then .tup [.agg [.f (.sl ((zo f).map rl)),.f (.sl ((zZ (zo f)).map rl))],vI 0] else .tup [.agg [.f (.sl []),.f (.sl [])],vI 5]
@[go_sem] theorem znL (f : PFunc) (i : okF f) : call T 98 [zfg f] [] = some (zhg f,[]):=by
  rw [ze (fn:=zhv) rfl]
  by_cases c1 : 64 < f.blocks.length
  ·have a : (64 : Int) < (f.blocks.length : Int):=by omega
   simp -implicitDefEqProofs only [go_sem,zhv,c1,a,zhg,zaM]
  have a : ¬ (64 : Int) < (f.blocks.length : Int):=by omega
  have d:=fun a0 a1 a3 a6 a7 h g => zGt f i (by omega) f.blocks.length 0 a0 a1 a3 a6 a7 h g (by omega) (by omega);have c:=zoU f.blocks.length f.blocks 0;simp only [yh,yc,yy] at d
  cases e : zjV f.blocks.length 0 f.blocks with
  | some x =>
    rw [e] at c;simp only [Option.isNone_some] at c;obtain ⟨j,b⟩:=x;simp -implicitDefEqProofs only [go_sem,e] at d;simp -implicitDefEqProofs only [go_sem,zhv,c1,a,d,zhg,zaM,← c]
  | none =>
    rw [e] at c;simp only [Option.isNone_none] at c;have hm:=zk7 (zo f) (ziW i);cases e2 : zbH (zo f)
    ·simp -implicitDefEqProofs only [go_sem,e,zkE,e2] at d hm
     simp -implicitDefEqProofs only [go_sem,zhv,c1,a,d,hm,zhg,zaM,← c,e2]
    ·simp -implicitDefEqProofs only [go_sem,e,zkE,e2] at d hm
     simp -implicitDefEqProofs only [go_sem,zhv,c1,a,d,hm,zhg,zaM,← c,e2]
end AC
