/- A part of the proof of SchedFlat. Conditions: none. -/
import Derived.Test.YtmkncmffaaninaaGreatFAW
set_option linter.all false
open List renaming drop_eq_getElem_cons → ya,replicate → yb,length_cons → yd,getElem_mem → ye,drop_length → yg,drop_zero → yh,take_succ_eq_append_getElem → yi,length_map → yj,map_append → yk,count_cons_self → yl,range → ym,length → yn,take_of_length_le → yo,count_cons_of_ne → yp,getElem?_eq_none → yq,range_succ → yr,foldl_cons → yw,take_zero → yy,mem_cons → yz,sum_cons → yB,map_set → yC,mem_map → yD,map → yE
open Int renaming natCast_zero → yc,lt_irrefl → yf,natCast_nonneg → ys,toNat_natCast → yt,reduceEq → yu
open Bool renaming not_eq_true' → yv
open Nat renaming add_assoc → yx,add_comm → yA
namespace AC
open Go Go.A Go.A.Lex
set_option maxHeartbeats 4000000
theorem zr1 (o : POp) (c : zur o) : call T 127 [vOp o] [] = some (.tup [vI (zad o).1,vI (zad o).2],[]):=by
 rw [ze (fn:=zA) rfl];have b:=zlj o c;cases hm : zgx o
 ·simp -implicitDefEqProofs only [go_sem,hm] at b
  simp -implicitDefEqProofs only [go_sem,zA,zad,hm,b]
 simp -implicitDefEqProofs only [go_sem,hm] at b
 by_cases c1 : o.kind = 17
 ·simp -implicitDefEqProofs only [go_sem,zA,zad,zfz,hm,b,eq_true c1]
 by_cases c2 : o.kind = 19
 ·simp -implicitDefEqProofs only [go_sem,zA,zad,zfz,hm,b,c1,eq_true c2]
 by_cases c3 : 10 ≤ o.kind
 ·have a : o.kind ≥ 10:=c3
  by_cases c4 : o.kind ≤ 12
  ·simp -implicitDefEqProofs only [go_sem,zA,zad,zfz,hm,b,c1,c2,eq_true c3,eq_true a,eq_true c4]
  ·by_cases c5 : o.kind = 22
   ·simp -implicitDefEqProofs only [go_sem,zA,zad,zfz,hm,b,c1,c2,eq_true c3,eq_true a,c4,eq_true c5]
   ·simp -implicitDefEqProofs only [go_sem,zA,zad,zfz,hm,b,c1,c2,eq_true c3,eq_true a,c4,c5]
 ·have a : ¬ o.kind ≥ 10:=c3
  have c5 : ¬ o.kind = 22:=by omega
  simp -implicitDefEqProofs only [go_sem,zA,zad,zfz,hm,b,c1,c2,c3,a,c5,false_and]
def zlr (o : POp) (k : Nat) : Int × Int :=
 if o.kind = 13 ∨ o.kind = 20 then (if k = 0 then (1,1) else (o.bits,o.lanes))
 else if o.kind = 14 ∨ o.kind = 15 then (o.imm,1)
 else if o.kind = 16 ∨ o.kind = 17 then (if k = 0 then (64,1) else (o.bits,o.lanes))
 else if o.kind = 18 ∨ o.kind = 19 then (if k = 1 then (64,1) else if k = 0 then (1,1) else (o.bits,o.lanes))
 else if o.kind = 21 then (o.bits,1) else (o.bits,o.lanes)
theorem zno {o : POp} (h : zgx o = true) : zds o.bits o.lanes = true ∧ (zK o).2 = true ∧ (zK o).1.length = o.args.length ∧ zgA o.kind = true:=by
 unfold zgx at h;simp only [Bool.and_eq_true,decide_eq_true_eq] at h;refine ⟨h.1,h.2.1,h.2.2.2.1,?_⟩;cases a : zgA o.kind
 ·rw [zoS a] at h
  exact absurd h.2.1 (by simp)
 ·rfl
theorem ztO {o : POp} (h : zgx o = true) (a : o.kind = 14 ∨ o.kind = 15) : 0 ≤ o.imm → o.imm ≤ 64:=by
 obtain ⟨c,b,_,_⟩:=zno h;obtain ⟨hm,e⟩:=zfn c;have d:=zcU hm;unfold zK at b;rcases a with a | a
 ·simp [a,arith,asks] at b
  omega
 ·simp [a,arith,asks] at b
  omega
theorem zwI {o : POp} (h : zgx o = true) (e : 0 ≤ o.imm) : (ym o.args.length).map (zlr o) = (zK o).1:=by
 obtain ⟨n,m,i,j⟩:=zno h;have c:=fun d => ztO h d e;rw [← i];obtain ⟨kind,bits,a,dst,args,imm⟩:=o;dsimp only at *;rcases zhp j with rfl | rfl | rfl | rfl | rfl | rfl | rfl | rfl | rfl | rfl | rfl | rfl | rfl | rfl | rfl | rfl | rfl | rfl | rfl | rfl | rfl | rfl | rfl
 all_goals first
  | rfl
  | (have f:=c (.inl rfl)
     have b : min imm 128 = imm:=(by omega);simp [zK,arith,asks,zlr,b,yr]
     done)
  | (have f:=c (.inr rfl)
     have b : min imm 128 = imm:=(by omega);simp [zK,arith,asks,zlr,b,yr]
     done)
  | (have g : zlr ⟨21,bits,a,dst,args,imm⟩ = fun _ => (bits,1):=by funext k; simp [zlr]
     have l : (zK ⟨21,bits,a,dst,args,imm⟩).1 = yb a.toNat (bits,1):=(by simp [zK,arith,asks]);rw [g,l,List.map_const',List.length_range,List.length_replicate]
     done)
theorem zvi (o : POp) (v : zur o) (hm : zgx o = true) : ∀ (d k : Nat) (a0 a2 a5 a6 a7 a8 a9 f m n c b l e p : V),o.args.length - k = d → k ≤ o.args.length →
  exec T zbw ⟨[a0,.one (.ptr 0 0 0 0),a2,.one (.ap 1 0 (((ym k).map (zlr o)).map rs)),vI k,a5,a6,a7,a8,a9,f,m,n,c,b,l,e,p],[.cells 0 6 [cOp o],.tok 2 [k]],0,0⟩ =
   some (.exit 0,⟨[vU,vU,vU,.one (.ap 1 0 (((ym o.args.length).map (zlr o)).map rs)),vU,vU,vU,vU,vU,vU,vU,vU,vU,vU,vU,vU,vU,vU],[.cells 0 6 [cOp o],.tok 2 [o.args.length]],0,0⟩):=by
 intro d
 induction d with
 | zero =>
   intro k a0 a2 a5 a6 a7 a8 a9 f m n c b l e p y x;have u : k = o.args.length:=(by omega);subst u;rw [xl zbw rfl,zdC];simp -implicitDefEqProofs only [go_sem,yf,yj]
 | succ d ih =>
   intro k a0 a2 a5 a6 a7 a8 a9 f m n c b l e p y x;have u : k < o.args.length:=(by omega);have:=ih (k + 1) vU vU vU vU vU vU vU vU vU vU vU vU vU vU vU (by omega) (by omega);have a : k + 1 ≤ LIM:=(by have:=v.2; unfold LIM; omega);have hlen : (((ym k).map (zlr o)).map rs).length = k:=by simp
   have e1 : ((ym k).map (zlr o)).map rs ++ [rs (zlr o k)] = ((ym (k + 1)).map (zlr o)).map rs:=by
    rw [yr,yk,yk];rfl
   have hw : o.kind = 14 ∨ o.kind = 15 → Go.IntKind.i64.wrap o.imm = o.imm:=fun h => by
    have:=ztO hm h v.1.1;have:=v.1.1;rw [wrap_i64] <;> omega
   have i:=za u v.2;have q:=ilt u;obtain ⟨B,C,A,z⟩:=zno hm;obtain ⟨acc,t⟩ : ∃ acc,acc = ((ym k).map (zlr o)).map rs:=⟨_,rfl⟩;rw [← t] at hlen e1 ⊢;obtain ⟨kind,bits,w,dst,args,imm⟩:=o;dsimp only at *;have r : ((k : Int) = 0) = (k = 0):=(by apply propext; omega);have g : ((k : Int) = 1) = (k = 1):=(by apply propext; omega);rw [xl zbw rfl,zdC];simp -implicitDefEqProofs only [go_sem] at this;rcases zhp z with rfl | rfl | rfl | rfl | rfl | rfl | rfl | rfl | rfl | rfl | rfl | rfl | rfl | rfl | rfl | rfl | rfl | rfl | rfl | rfl | rfl | rfl | rfl
   all_goals
    by_cases s : k = 0
    ·have j : ¬ k = 1:=by omega
     simp -implicitDefEqProofs only [zlr,rs,eq_true s,j,if_true,if_false,yu,or_false,or_true,false_or,true_or,or_self,Nat.reduceEqDiff,Nat.zero_ne_one] at e1 hw;simp -implicitDefEqProofs only [go_sem,yj,q,r,g,eq_true s,j,hlen,a,i,hw,e1,this]
    ·by_cases j : k = 1
     ·simp -implicitDefEqProofs only [zlr,rs,s,eq_true j,if_true,if_false,yu,or_false,or_true,false_or,true_or,or_self] at e1 hw
      simp -implicitDefEqProofs only [go_sem,yj,q,r,g,s,eq_true j,hlen,a,i,hw,e1,this]
     ·simp -implicitDefEqProofs only [zlr,rs,s,j,if_true,if_false,yu,or_false,or_true,false_or,true_or,or_self] at e1 hw
      simp -implicitDefEqProofs only [go_sem,yj,q,r,g,s,j,hlen,a,i,hw,e1,this]
end AC
namespace AC
def tr (t : List Int) (a : Int) : Int:=t.getD a.toNat (-2)
def zZ (t : List Int) : Nat → Int → Int → Option Int
 | 0,_,_ => none
 | r + 1,n,a => if a < 0 then some (-1) else if (t.length : Int) ≤ a then some (-1) else if tr t a = -1 then some n else zZ t r (n + 1) (tr t a)
def zD (t : List Int) (a : Int) : Int:=(zZ t t.length 0 a).getD (-1)
def zaF (t : List Int) : Nat → Nat → List Int → Option Nat
 | _,n,[] => some n
 | k,n,x :: r => if x = -2 then zaF t (k + 1) n r else if zD t k < 0 then none else zaF t (k + 1) (if x = -1 then n + 1 else n) r
def zgz (t : List Int) : Bool:=zaF t 0 0 t == some 1
def inS (t : List Int) (l : List Int) : Bool:=zgz t && !l.any fun a => decide (zD t a < 0)
def ziz (t : List Int) : Nat → Int → Int → Int
 | 0,a,_ => a
 | r + 1,a,b => if a = b then a else if zD t b ≤ zD t a then ziz t r (tr t a) b else ziz t r a (tr t b)
def zxE (t : List Int) (a b : Int) : Int:=if inS t [a,b] = true then ziz t (zD t a + zD t b).toNat a b else -2
def zkR (t : List Int) (a b : Int) : Bool:=inS t [a,b] && decide (zxE t a b = a)
def inR (n : Nat) (a : Int) : Bool:=decide (0 ≤ a) && decide (a < n)
def zpO (t at' : List Int) : Nat → Int → Int → Option Int
 | 0,_,_ => none
 | r + 1,a,b => if inR t.length a && (inR at'.length a && inR at'.length b) then (if tr at' b < tr at' a then zpO t at' r (tr t a) b else some a) else none
def ztd (t at' : List Int) (K : Nat) : Nat → Int → Int → Option Int
 | 0,_,_ => none
 | r + 1,a,b => if a = b then some a else match zpO t at' K a b with
   | none => none
   | some a' => match zpO t at' K b a' with
     | none => none
     | some b' => ztd t at' K r a' b'
def zmb (t at' : List Int) (K : Nat) : List Int → Int → Option Int
 | [],b => some b
 | p :: r,b => if inR t.length p = true then (if tr t p = -2 then zmb t at' K r b else if b = -2 then zmb t at' K r p else match ztd t at' K K b p with
   | none => none
   | some c => zmb t at' K r c) else none
def zrI (pred : List (List Int)) (t at' : List Int) (K : Nat) : List Int → Option (Option (Int × Int))
 | [] => some none
 | x :: r => if inR t.length x = true then (match zmb t at' K (pred.getD x.toNat []) (-2) with
   | none => none
   | some b => if tr t x = b then zrI pred t at' K r else some (some (x,b))) else none
def zhb (pred : List (List Int)) (at' : List Int) (K : Nat) (tail : List Int) : Nat → List Int → Option (List Int)
 | 0,_ => none
 | r + 1,t => match zrI pred t at' K tail with
   | none => none
   | some none => some t
   | some (some (x,b)) => zhb pred at' K tail r (t.set x.toNat b)
theorem zk9 {pred : List (List Int)} {b : List Int} {K : Nat} {tail : List Int} : ∀ {r : Nat} {t a : List Int},zhb pred b K tail r t = some a → a.length = t.length
 | 0,_,_,h => by simp [zhb] at h
 | r + 1,t,a,h => by
   simp only [zhb] at h;split at h
   ·cases h
   ·injection h with h; rw [h]
   ·rw [zk9 h]; simp
def zki : Nat → List Int → List Int → List Int
 | _,[],at' => at'
 | i,x :: r,at' => zki (i + 1) r (at'.set x.toNat (i : Int))
theorem ziM : ∀ (l : List Int) (i : Nat) (a : List Int),(zki i l a).length = a.length
 | [],_,_ => rfl
 | x :: r,i,a => by rw [zki,ziM r]; simp
def zkV (n root : Nat) : List Int:=(yb n (-2 : Int)).set root root
def at0 (n : Nat) (order : List Int) : List Int:=zki 0 order (yb n 0)
def scan (seen : List Bool) : List Int → Nat → Option (Int × Nat)
 | [],_ => none
 | y :: r,j => if seen.getD y.toNat false = true then scan seen r (j + 1) else some (y,j + 1)
structure DF where
 seen : List Bool
 next : List Nat
 out : List Int
 stk : List Int
def zxz (succ : List (List Int)) (x : Int) : Nat:=(succ.getD x.toNat []).length
def zf9 (succ : List (List Int)) (d : DF) (x : Int) : Option (Int × Nat):=scan d.seen ((succ.getD x.toNat []).drop (d.next.getD x.toNat 0)) (d.next.getD x.toNat 0)
def dfs (succ : List (List Int)) : Nat → DF → Option (List Int)
 | 0,_ => none
 | k + 1,d => match d.stk with
   | [] => none
   | x :: s => match zf9 succ d x with
     | some (y,j) => dfs succ k ⟨d.seen.set y.toNat true,d.next.set x.toNat j,d.out,y :: x :: s⟩
     | none => match s with
       | [] => some (d.out ++ [x])
       | _ :: _ => dfs succ k ⟨d.seen,d.next.set x.toNat (zxz succ x),d.out ++ [x],s⟩
structure DInv (succ : List (List Int)) (d : DF) : Prop where
 seen : d.seen.length = 64
 next : d.next.length = 64
 le : ∀ X,X < succ.length → d.next.getD X 0 ≤ (succ.getD X []).length
 stk : ∀ x ∈ d.stk,0 ≤ x ∧ x < (succ.length : Int)
theorem zAv {seen : List Bool} : ∀ {l : List Int} {k : Nat} {y : Int} {j : Nat},scan seen l k = some (y,j) → k < j ∧ j ≤ k + l.length ∧ y ∈ l
 | [],_,_,_,h => by simp [scan] at h
 | z :: r,k,y,j,h => by
   simp only [scan] at h;split at h
   ·have:=zAv h
    simp only [yd,yz];exact ⟨by omega,by omega,.inr this.2.2⟩
   ·simp only [Option.some.injEq,Prod.mk.injEq] at h
    obtain ⟨rfl,rfl⟩:=h;simp
def zqb : List Bool:=yb 64 false
def zoi : List Nat:=yb 64 0
def zsK (root : Int) : DF:=⟨zqb.set root.toNat true,zoi,[],[root]⟩
def zs4 (i : Int) (out : List (List Int)) (x : Int) : List (List Int):=out.set x.toNat (out.getD x.toNat [] ++ [i])
theorem zfT (i : Int) (out : List (List Int)) (x : Int) : (zs4 i out x).length = out.length:=by simp [zs4]
theorem zge (i : Int) : ∀ (l : List Int) (out : List (List Int)),(l.foldl (zs4 i) out).length = out.length
 | [],_ => rfl
 | x :: r,out => by rw [yw,zge i r,zfT]
def za7 : Nat → List (List Int) → List (List Int) → List (List Int)
 | _,[],out => out
 | i,l :: r,out => za7 (i + 1) r (l.foldl (zs4 i) out)
def zN (succ : List (List Int)) : List (List Int):=za7 0 succ (yb succ.length [])
theorem zgo : ∀ (l : List (List Int)) (i : Nat) (out : List (List Int)),(za7 i l out).length = out.length
 | [],_,_ => rfl
 | x :: r,i,out => by rw [za7,zgo r,zge]
theorem zcq (succ : List (List Int)) : (zN succ).length = succ.length:=by rw [zN,zgo]; simp
def zjV (succ : List (List Int)) : Prop:=succ.length ≤ 4294967296 ∧ ∀ l ∈ succ,l.length ≤ 4294967296
def zP (n : Int) : Int → List Int → Bool
 | _,[] => true
 | last,x :: r => if x ≤ last ∨ n ≤ x then false else zP n x r
def rising (l : List Int) (n : Int) : Bool:=zP n (-1) l
def zbk (succ : List (List Int)) : Bool:=!(decide (succ.length < 1) || (decide (64 < succ.length) || succ.any fun l => !rising l succ.length))
def zAM (succ pred : List (List Int)) : Bool:=zbk succ && decide (zN succ = pred)
def zl4 (k : Int) : Int:=if k = 0 ∨ k = 3 then 0 else if k = 1 then 1 else if k = 2 then 2 else -1
def zkT (n k : Int) : Bool:=decide (k < 1) || decide (n ≤ k)
theorem zbe {α : Type} {l : List α} {i : Nat} (v d : α) (h : i < l.length) : (l.set i v).getD i d = v:=by simp [h]
theorem getD_set_ne {α : Type} {l : List α} {i j : Nat} (v d : α) (h : i ≠ j) : (l.set i v).getD j d = l.getD j d:=by simp [List.getElem?_set_ne h]
theorem zmr (t : List Int) : ∀ (r : Nat) (n a m : Int),0 ≤ n → zZ t r n a = some m → m = -1 ∨ n ≤ m
 | 0,_,_,_,_,h => by simp [zZ] at h
 | r + 1,n,a,m,hn,h => by
   simp only [zZ] at h;split at h
   ·simp at h; omega
   split at h
   ·simp at h; omega
   split at h
   ·simp at h; omega
   ·have:=zmr t r (n + 1) _ m (by omega) h
    omega
theorem zl5 (t : List Int) : ∀ (r : Nat) (n a m : Int),0 ≤ n → 0 ≤ m → zZ t r (n + 1) a = some m → zZ t r n a = some (m - 1)
 | 0,_,_,_,_,_,h => by simp [zZ] at h
 | r + 1,n,a,m,hn,hm,h => by
   simp only [zZ] at h ⊢;split at h
   ·simp at h; omega
   split at h
   ·simp at h; omega
   split at h
   ·rename_i b d c
    simp only [b,d,c,if_true,if_false,Option.some.injEq] at h ⊢;omega
   ·rename_i b d c
    simp only [b,d,c,if_false];exact zl5 t r (n + 1) _ m (by omega) hm h
theorem zml (t : List Int) : ∀ (r : Nat) (n a m : Int),zZ t r n a = some m → zZ t (r + 1) n a = some m
 | 0,_,_,_,h => by simp [zZ] at h
 | r + 1,n,a,m,h => by
   rw [zZ] at h ⊢;split at h
   ·rename_i b; simp only [b,if_true]; exact h
   split at h
   ·rename_i b c; simp only [b,c,if_true,if_false]; exact h
   split at h
   ·rename_i b c d; simp only [b,c,d,if_true,if_false]; exact h
   ·rename_i b c d
    simp only [b,c,d,if_false];exact zml t r (n + 1) _ m h
theorem zpH {t : List Int} {a : Int} (h : 0 ≤ zD t a) : zZ t t.length 0 a = some (zD t a):=by
 unfold zD at h ⊢
 cases e : zZ t t.length 0 a with
 | none => rw [e] at h; simp at h
 | some m => rfl
theorem zg1 {t : List Int} {a : Int} (h : 0 ≤ zD t a) : 0 ≤ a ∧ a < t.length:=by
 have:=zpH h
 cases b : t.length with
 | zero => rw [b] at this; simp [zZ] at this
 | succ r =>
   rw [b,zZ] at this;split at this
   ·simp at this; omega
   split at this
   ·simp at this; omega
   ·rename_i d c
    rw [b] at c;omega
theorem zkw {t : List Int} {a : Int} (d : 0 ≤ a) (b : a < t.length) (h : tr t a = -1) : zD t a = 0:=by
 unfold zD
 cases c : t.length with
 | zero => omega
 | succ r =>
   rw [zZ,if_neg (by omega),if_neg (by omega),if_pos h];rfl
theorem zfi {t : List Int} {a : Int} (h : 0 ≤ zD t a) (e : tr t a ≠ -1) : 1 ≤ zD t a ∧ zD t (tr t a) = zD t a - 1:=by
 have b:=zpH h;obtain ⟨i,f⟩:=zg1 h
 cases d : t.length with
 | zero => omega
 | succ r =>
   rw [d,zZ,if_neg (by omega),if_neg (by omega),if_neg e] at b;have g:=zmr t r (0 + 1) _ _ (by omega) b;have c:=zml t r _ _ _ (zl5 t r 0 _ _ (by omega) h b);refine ⟨by omega,?_⟩;rw [← d] at c;rw [zD,c];rfl
theorem zgV {t : List Int} {a : Int} (h : zD t a = 0) : tr t a = -1:=by
 by_cases c : tr t a = -1
 ·exact c
 ·have:=zfi (by omega) c
  omega
theorem zfA (t : List Int) : ∀ (l : List Int) (k n m : Nat),zaF t k n l = some m → m = n + l.count (-1)
 | [],_,_,_,h => by simp [zaF] at h; simp [h]
 | x :: r,k,n,m,h => by
   simp only [zaF] at h;split at h
   ·rename_i a
    subst a;rw [zfA t r _ _ _ h,yp (by decide)]
   split at h
   ·cases h
   ·split at h
    ·rename_i a
     subst a;rw [zfA t r _ _ _ h,yl];omega
    ·rename_i a
     rw [zfA t r _ _ _ h,yp (by simpa using a)]
theorem zta {x : Int} : ∀ (l : List Int),l.count x ≤ 1 → ∀ i j (a : i < l.length) (b : j < l.length),l[i] = x → l[j] = x → i = j
 | [],_,i,_,a,_,_,_ => by simp at a
 | y :: r,h,i,j,a,b,e1,e2 => by
   have pos : ∀ k (c : k < r.length),r[k] = x → 1 ≤ r.count x:=fun k c e => by
    have : x ∈ r:=(by rw [← e]; exact ye c);exact List.count_pos_iff.2 this
   cases i with
   | zero =>
     cases j with
     | zero => rfl
     | succ j =>
       simp at e1 e2;subst e1;rw [yl] at h;have:=pos j (by simpa using b) e2;omega
   | succ i =>
     cases j with
     | zero =>
       simp at e1 e2;subst e2;rw [yl] at h;have:=pos i (by simpa using a) e1;omega
     | succ j =>
       have d : r.count x ≤ 1:=by
        rw [List.count_cons] at h;omega
       rw [zta r d i j (by simpa using a) (by simpa using b) (by simpa using e1) (by simpa using e2)]
theorem ztI {t : List Int} (h : zgz t = true) {a b : Int} (f : 0 ≤ a ∧ a < t.length) (g : 0 ≤ b ∧ b < t.length) (ea : tr t a = -1) (eb : tr t b = -1) : a = b:=by
 have e : zaF t 0 0 t = some 1:=by simpa [zgz] using h
 have i:=zfA t t 0 0 1 e;have d : a.toNat < t.length:=by omega
 have c : b.toNat < t.length:=by omega
 have:=zta t (x:=-1) (by omega) a.toNat b.toNat d c (by simpa [tr,d] using ea) (by simpa [tr,c] using eb);omega
theorem zDI {t : List Int} {a b : Int} (h : inS t [a,b] = true) : zgz t = true ∧ 0 ≤ zD t a ∧ 0 ≤ zD t b:=by
 simp [inS] at h;exact ⟨h.1,by omega,by omega⟩
end AC
namespace AC
open Go Go.A Go.A.Lex
@[go_sem] theorem zzJ (k : Int) : call T 143 [vI k] [] = some (vI (zl4 k),[]):=by
  rw [ze (fn:=zfq) rfl]
  by_cases c0 : k = 0
  ·simp -implicitDefEqProofs only [go_sem,zfq,zl4,c0]
  by_cases c3 : k = 3
  ·simp -implicitDefEqProofs only [go_sem,zfq,zl4,c0,c3]
  by_cases c1 : k = 1
  ·simp -implicitDefEqProofs only [go_sem,zfq,zl4,c0,c3,c1]
  by_cases c2 : k = 2 <;> simp -implicitDefEqProofs only [go_sem,zfq,zl4,c0,c3,c1,c2]
theorem zu2 (l : List Int) (n : Int) (e : l.length ≤ 4294967296) : ∀ (d k : Nat) (last : Int) (a0 a2 a4 a8 a9 : V),l.length - k = d → k ≤ l.length →
  exec T zfB ⟨[a0,vI n,a2,vI last,a4,vIs l,vI l.length,vI k,a8,a9],[],0,0⟩ =
   some (if zP n last (l.drop k) = true then (.exit 0,⟨[vU,vU,vU,vU,vU,vU,vU,vU,vU,vU],[],0,0⟩) else (.ret,⟨[vU,vU,vB false,vU,vU,vU,vU,vU,vU,vU],[],0,0⟩)):=by
 intro d
 induction d with
 | zero =>
   intro k last a0 a2 a4 a8 a9 b c;have a : k = l.length:=(by omega);subst a;rw [xl zfB rfl,zgZ];simp -implicitDefEqProofs only [go_sem,yf,yg,zP]
 | succ d ih =>
   intro k last a0 a2 a4 a8 a9 b c;have a : k < l.length:=(by omega);have hd : l.drop k = l[k] :: l.drop (k + 1):=ya a;rw [xl zfB rfl,zgZ,hd]
   by_cases c1 : l[k] ≤ last
   ·simp -implicitDefEqProofs only [go_sem,ilt a,zm a,ri,c1,zP]
   ·by_cases c2 : n ≤ l[k]
    ·simp -implicitDefEqProofs only [go_sem,ilt a,zm a,ri,c1,c2,zP]
    ·simp -implicitDefEqProofs only [go_sem,ilt a,zm a,ri,c1,c2,zP,za a e]
     exact ih (k + 1) l[k] _ _ _ _ _ (by omega) (by omega)
@[go_sem] theorem znl (l : List Int) (n : Int) (b : l.length ≤ 4294967296) : call T 180 [vIs l,vI n] [] = some (vB (rising l n),[]):=by
  rw [ze (fn:=zhY) rfl];have h:=fun a0 a2 a4 a8 a9 => zu2 l n b l.length 0 (-1) a0 a2 a4 a8 a9 (by omega) (by omega);simp only [yh,yc] at h;cases a : zP n (-1) l <;> simp -implicitDefEqProofs only [go_sem,a] at h <;> simp -implicitDefEqProofs only [go_sem,zhY,rising,h,a]
theorem zqk (l m : List Int) (i : l.length = m.length) (g : l.length ≤ 4294967296) (σ : zd) : ∀ (d k : Nat) (a2 a3 a4 a7 a8 : V),l.length - k = d → k ≤ l.length →
  exec T zc8 ⟨[vIs l,vIs m,a2,a3,a4,vI l.length,vI k,a7,a8],σ,σ.length,σ.length⟩ =
   some (if l.drop k = m.drop k then (.exit 0,⟨[vU,vU,vU,vU,vU,vU,vU,vU,vU],σ,σ.length,σ.length⟩) else (.ret,⟨[vU,vU,vB false,vU,vU,vU,vU,vU,vU],σ,σ.length,σ.length⟩)):=by
 intro d
 induction d with
 | zero =>
   intro k a2 a3 a4 a7 a8 h f;have a : k = l.length:=(by omega);subst a;have e : m.drop l.length = []:=(by simp [i]);rw [xl zc8 rfl,zfd,e];simp -implicitDefEqProofs only [go_sem,yf,yg]
 | succ d ih =>
   intro k a2 a3 a4 a7 a8 h f;have a : k < l.length:=(by omega);have b : k < m.length:=(by omega);have hd : l.drop k = l[k] :: l.drop (k + 1):=ya a;have c : m.drop k = m[k] :: m.drop (k + 1):=ya b;rw [xl zc8 rfl,zfd,hd,c]
   by_cases c1 : l[k] = m[k]
   ·simp -implicitDefEqProofs only [go_sem,ilt a,zm a,zm b,ri,c1,za a g,List.cons.injEq]
    exact ih (k + 1) _ _ _ _ _ (by omega) (by omega)
   ·simp -implicitDefEqProofs only [go_sem,ilt a,zm a,zm b,ri,c1,List.cons.injEq,false_and]
@[go_sem] theorem zlc (l m : List Int) (σ : zd) (d : l.length ≤ 4294967296) : call T 184 [vIs l,vIs m] σ = some (vB (decide (l = m)),σ):=by
  rw [ze (fn:=zcd) rfl]
  by_cases a : l.length = m.length
  ·have h:=fun a2 a3 a4 a7 a8 => zqk l m a d σ l.length 0 a2 a3 a4 a7 a8 (by omega) (by omega)
   have c : ((l.length : Int) = (m.length : Int)) = True:=(by simp [a]);simp only [yh,yc] at h
   by_cases he : l = m
   ·subst he
    simp -implicitDefEqProofs only [go_sem] at h;simp -implicitDefEqProofs only [go_sem,zcd,h]
   ·simp -implicitDefEqProofs only [go_sem,he] at h
    simp -implicitDefEqProofs only [go_sem,zcd,h,he,c]
  ·have he : ¬ l = m:=fun h => a (by rw [h])
   have b : ¬ (l.length : Int) = (m.length : Int):=(by omega);simp -implicitDefEqProofs only [go_sem,zcd,b,he]
theorem zp7 (l m : List (List Int)) (p : l.length = m.length) (n : l.length ≤ 4294967296) (h : ∀ x ∈ l,x.length ≤ 4294967296) (σ : zd) : ∀ (d k : Nat) (a0 a3 a4 a5 a6 a7 c f : V),l.length - k = d → k ≤ l.length →
  exec T za0 ⟨[a0,vLs m,vFn 184 [],a3,a4,a5,a6,a7,vLs l,vI l.length,vI k,c,f],σ,σ.length,σ.length⟩ =
   some (if l.drop k = m.drop k then (.exit 0,⟨[vU,vU,vU,vU,vU,vU,vU,vU,vU,vU,vU,vU,vU],σ,σ.length,σ.length⟩) else (.ret,⟨[vU,vU,vU,vB false,vU,vU,vU,vU,vU,vU,vU,vU,vU],σ,σ.length,σ.length⟩)):=by
 intro d
 induction d with
 | zero =>
   intro k a0 a3 a4 a5 a6 a7 c f o j;have a : k = l.length:=(by omega);subst a;have e : m.drop l.length = []:=(by simp [p]);rw [xl za0 rfl,zcQ,e];simp -implicitDefEqProofs only [go_sem,yf,yg]
 | succ d ih =>
   intro k a0 a3 a4 a5 a6 a7 c f o j;have a : k < l.length:=(by omega);have b : k < m.length:=(by omega);have hd : l.drop k = l[k] :: l.drop (k + 1):=ya a;have i : m.drop k = m[k] :: m.drop (k + 1):=ya b;have g:=zlc l[k] m[k] σ (h _ (ye a));rw [xl za0 rfl,zcQ,hd,i]
   by_cases c1 : l[k] = m[k]
   ·simp -implicitDefEqProofs only [go_sem,c1] at g
    simp -implicitDefEqProofs only [go_sem,ilt a,zm a,zm b,rl,c1,g,za a n,List.cons.injEq];exact ih (k + 1) _ _ _ _ _ _ _ _ (by omega) (by omega)
   ·simp -implicitDefEqProofs only [go_sem,c1] at g
    simp -implicitDefEqProofs only [go_sem,ilt a,zm a,zm b,rl,c1,g,List.cons.injEq,false_and]
@[go_sem] theorem zlF (l m : List (List Int)) (σ : zd) (g : l.length ≤ 4294967296) (e : ∀ x ∈ l,x.length ≤ 4294967296) : call T 183 [vLs l,vLs m,vFn 184 []] σ = some (vB (decide (l = m)),σ):=by
  rw [ze (fn:=zau) rfl]
  by_cases a : l.length = m.length
  ·have h:=fun a0 a3 a4 a5 a6 a7 c d => zp7 l m a g e σ l.length 0 a0 a3 a4 a5 a6 a7 c d (by omega) (by omega)
   have f : ((l.length : Int) = (m.length : Int)) = True:=(by simp [a]);simp only [yh,yc] at h
   by_cases he : l = m
   ·subst he
    simp -implicitDefEqProofs only [go_sem] at h;simp -implicitDefEqProofs only [go_sem,zau,h]
   ·simp -implicitDefEqProofs only [go_sem,he] at h
    simp -implicitDefEqProofs only [go_sem,zau,h,he,f]
  ·have he : ¬ l = m:=fun h => a (by rw [h])
   have b : ¬ (l.length : Int) = (m.length : Int):=(by omega);simp -implicitDefEqProofs only [go_sem,zau,b,he]
def apR : Nat → List (List Int) → List (List C)
 | _,[] => []
 | q,l :: r => [.ap 0 q (l.map ri)] :: apR (q + 1) r
theorem zig : ∀ (out : List (List Int)) (q : Nat),(apR q out).length = out.length
 | [],_ => rfl
 | l :: r,q => by simp [apR,zig r (q + 1)]
theorem zuA : ∀ (out : List (List Int)) (q k : Nat) (h : k < out.length),(apR q out)[k]? = some [.ap 0 (q + k) (out[k].map ri)]
 | [],_,_,h => by simp at h
 | l :: r,q,0,_ => by simp [apR]
 | l :: r,q,k + 1,h => by
   simp only [apR,List.getElem?_cons_succ,List.getElem_cons_succ];rw [zuA r (q + 1) k (by simpa using h),yx,yA 1 k]
theorem zyz : ∀ (out : List (List Int)) (q k : Nat) (l : List Int),(apR q out).set k [.ap 0 (q + k) (l.map ri)] = apR q (out.set k l)
 | [],_,_,_ => rfl
 | x :: r,q,0,l => by simp [apR]
 | x :: r,q,k + 1,l => by
   simp only [apR,List.set_cons_succ];rw [← zyz r (q + 1) k l,yx,yA 1 k]
theorem zAm : ∀ (out : List (List Int)) (q : Nat),zaf (apR q out) = some (out.map rl)
 | [],_ => rfl
 | x :: r,q => by simp [apR,zaf,zdR,ztr,zfF,zAm r (q + 1),rl]
theorem zDu (n : Nat) : (ym n).map (nest 0 [.f (.sl [])] 0) = apR 0 (yb n []):=by
 apply List.ext_getElem?;intro k
 by_cases a : k < n
 ·rw [zuA _ _ _ (by simpa using a)]
  simp [a,nest]
 ·rw [yq (by simp; omega),yq (by rw [zig]; simp; omega)]
theorem zzL {i : Int} {out : List (List Int)} {x : Int} {B : Nat} (h : ∀ y ∈ out,y.length ≤ B) : ∀ y ∈ zs4 i out x,y.length ≤ B + 1:=by
 intro y b;rcases List.mem_or_eq_of_mem_set b with a | a
 ·have:=h y a
  omega
 ·subst a
  simp only [List.length_append,yd,List.length_nil,List.getD_eq_getElem?_getD]
  cases e : out[x.toNat]? with
  | none => simp
  | some z =>
    have:=h z (List.mem_of_getElem? e);simp;omega
theorem zrB (i : Int) : ∀ (l : List Int) (out : List (List Int)) (B : Nat),(∀ y ∈ out,y.length ≤ B) → ∀ y ∈ l.foldl (zs4 i) out,y.length ≤ B + l.length
 | [],_,_,h => h
 | x :: r,out,B,h => fun y a => by
   have:=zrB i r (zs4 i out x) (B + 1) (zzL h) y a;simp only [yd];omega
abbrev pst (out : List (List Int)) : zd:=[.tok 1 (out.map yn),.cells 0 1 (apR 0 out)]
theorem zCp (succ : List (List Int)) (i n : Nat) (l : List Int) (z : l.length ≤ 4294967296) (v : ∀ x ∈ l,0 ≤ x ∧ x < n) : ∀ (d k : Nat) (out : List (List Int)) (B : Nat) (a0 a1 a4 a5 a9 b : V),l.length - k = d → k ≤ l.length → out.length = n →
  (∀ y ∈ out,y.length ≤ B) → B + d ≤ 4294967296 →
  exec T zf3 ⟨[a0,a1,.one (.own 1 0 0 n),vI i,a4,a5,vLs succ,vI succ.length,vI i,a9,vIs l,vI l.length,vI k,b],pst out,0,0⟩ =
   some (.exit 2,⟨[vU,vU,.one (.own 1 0 0 n),vU,vU,vU,vLs succ,vI succ.length,vI i,vU,vU,vU,vU,vU],pst ((l.drop k).foldl (zs4 i) out),0,0⟩):=by
 intro d
 induction d with
 | zero =>
   intro k out B a0 a1 a4 a5 a9 b C w s h t;have c : k = l.length:=(by omega);subst c;rw [xl zf3 rfl,zhX];simp -implicitDefEqProofs only [go_sem,yf,yg,List.foldl_nil]
 | succ d ih =>
   intro k out B a0 a1 a4 a5 a9 b C w s h t;have c : k < l.length:=(by omega);have hd : l.drop k = l[k] :: l.drop (k + 1):=ya c;obtain ⟨A,D⟩:=v _ (ye c);generalize hxe : l[k] = x at *;obtain ⟨j,rfl⟩ : ∃ j : Nat,x = j:=⟨x.toNat,by omega⟩;have f : j < out.length:=(by omega);have o : ((j : Int) < (n : Int)) = True:=(by simp; omega);have g:=zuA out 0 j f;have r:=fun m => zyz out 0 j m;simp only [Nat.zero_add] at g r;have u : (out.map yn)[j]? = some out[j].length:=by simp [f]
   have e : out[j].length + 1 ≤ LIM:=by
    have:=h _ (ye f);unfold LIM;omega
   have a : zs4 i out j = out.set j (out[j] ++ [(i : Int)]):=(by simp [zs4,f]);have q : (l.map ri)[k]? = some (ri (j : Int)):=(by rw [zm c,hxe]);rw [xl zf3 rfl,zhX,hd,yw];simp -implicitDefEqProofs only [go_sem,ilt c,q,ri,A,o,yt,g,u,e,zig,yk,yC];have e1 : yE ri out[j] ++ [[Fz.lit (Value.int .i64 (i : Int))]] = yE ri (out[j] ++ [(i : Int)]):=(by simp [ri]);rw [e1];simp -implicitDefEqProofs only [go_sem,r,zig,za c z,g]
   have p : ∀ y ∈ out.set j (out[j] ++ [(i : Int)]),y.length ≤ B + 1:=by
    rw [← a];exact zzL h
   have:=ih (k + 1) (out.set j (out[j] ++ [(i : Int)])) (B + 1) vU vU vU vU vU vU (by omega) (by omega) (by simpa using s) p (by omega);rw [a];simp -implicitDefEqProofs only [go_sem,pst,yC] at this ⊢;exact this
theorem zA4 (succ : List (List Int)) (m : succ.length ≤ 4294967296) (p : ∀ l ∈ succ,l.length ≤ 4294967296) (n : ∀ l ∈ succ,∀ x ∈ l,0 ≤ x ∧ x < succ.length) : ∀ (d k : Nat) (out : List (List Int)) (B : Nat) (a0 a1 a3 a4 a5 a9 c e f a : V),succ.length - k = d → k ≤ succ.length → out.length = succ.length →
  (∀ y ∈ out,y.length ≤ B) → B + ((succ.drop k).map yn).sum ≤ 4294967296 →
  exec T zf4 ⟨[a0,a1,.one (.own 1 0 0 succ.length),a3,a4,a5,vLs succ,vI succ.length,vI k,a9,c,e,f,a],pst out,0,0⟩ =
   some (.exit 0,⟨[vU,vU,.one (.own 1 0 0 succ.length),vU,vU,vU,vU,vU,vU,vU,vU,vU,vU,vU],pst (za7 k (succ.drop k) out),0,0⟩):=by
 intro d
 induction d with
 | zero =>
   intro k out B a0 a1 a3 a4 a5 a9 c e f a q o h g i;have b : k = succ.length:=(by omega);subst b;rw [xl zf4 rfl,zhR];simp -implicitDefEqProofs only [go_sem,yf,yg,za7]
 | succ d ih =>
   intro k out B a0 a1 a3 a4 a5 a9 c e f a q o h g i;have b : k < succ.length:=(by omega);have hd : succ.drop k = succ[k] :: succ.drop (k + 1):=ya b;have hm:=ye b;rw [hd,List.map_cons,yB] at i;have j:=fun a0 a1 a4 a5 a9 a => zCp succ k succ.length succ[k] (p _ hm) (n _ hm) succ[k].length 0 out B a0 a1 a4 a5 a9 a (by omega) (by omega) h g (by omega);have:=ih (k + 1) (succ[k].foldl (zs4 k) out) (B + succ[k].length) vU vU vU vU vU vU vU vU vU vU (by omega) (by omega) (by rw [zge,h]) (zrB _ _ _ _ g) (by omega);rw [xl zf4 rfl,zhR,hd,za7];simp -implicitDefEqProofs only [go_sem,pst,yh,yc] at j this;simp -implicitDefEqProofs only [go_sem,ilt b,zm b,rl,pst,j,za b m];exact this
theorem zxD (succ : List (List Int)) (g : succ.length ≤ 4294967296) (j : ∀ l ∈ succ,l.length ≤ 4294967296) (i : ∀ l ∈ succ,∀ x ∈ l,0 ≤ x ∧ x < succ.length) (k : (succ.map yn).sum ≤ 4294967296) :
  call T 182 [vLs succ] [] = some (vLs (zN succ),[]):=by
 rw [ze (fn:=ziC) rfl];have h:=fun a0 a1 a3 a4 a5 a9 c e f b => zA4 succ g j i succ.length 0 (yb succ.length []) 0 a0 a1 a3 a4 a5 a9 c e f b (by omega) (by omega) (by simp) (fun y m => by rw [(List.mem_replicate.1 m).2]; simp) (by simpa using k);have hlen : (apR 0 (za7 0 succ (yb succ.length []))).length = succ.length:=by rw [zig,zgo]; simp
 have a : (succ.length : Int) ≤ (LIM : Int):=by unfold LIM; omega
 have d : (apR 0 (za7 0 succ (yb succ.length []))).take succ.length = apR 0 (za7 0 succ (yb succ.length [])):=yo (by omega);simp -implicitDefEqProofs only [go_sem,pst,yh,yc,List.map_replicate] at h;simp -implicitDefEqProofs only [go_sem,ziC,a,zDu,h,ys,yt,d,zAm,zN]
theorem zks {f : Nat} {g : List V → zd → Option (V × zd)} (h : T f = some (.ext g)) (args : List V) (σ : zd) : call T f args σ = g args σ:=by
 simp only [call,zfI,h]
theorem zuT (l : List Int) : zn4 1 (l.map ri) = true:=by
 induction l with
 | nil => rfl
 | cons x r ih => simp [zn4,ri,ih]
@[go_sem] theorem zp6 (l : List Int) (a : l.length ≤ 4294967296) : call T 181 [vIs l] [] = some (vIs l,[]):=by
  rw [zks (g:=zh9 1) rfl];simp [zh9,zoA,zuT,LIM,a]
theorem zny (l : List Int) (n : Int) (a : l.length ≤ 4294967296) (o : Ob) (r : zd) : call T 179 [vIs l,.one (.ptr 1 0 0 0)] (o :: .cells 0 1 [[.f (ei n)]] :: r) = some (vB (!rising l n),o :: .cells 0 1 [[.f (ei n)]] :: r):=by
 rw [ze (fn:=zhS) rfl];have h:=znl l n a;simp -implicitDefEqProofs only [go_sem] at h;simp -implicitDefEqProofs only [go_sem,zhS,h]
theorem znn (n : Int) : ∀ (l : List Int) (last : Int),zP n last l = true → ∀ x ∈ l,last < x ∧ x < n
 | [],_,_,x,h => by simp at h
 | y :: r,last,h,x,a => by
   simp only [zP] at h;split at h
   ·cases h
   ·rename_i b
    rcases yz.1 a with rfl | a
    ·omega
    ·have:=znn n r y h x a
     omega
theorem zqG (n : Int) : ∀ (l : List Int) (last : Int),zP n last l = true → -1 ≤ last → last < n → (l.length : Int) ≤ n - last - 1
 | [],last,_,h1,h2 => by simp; omega
 | y :: r,last,h,h1,h2 => by
   simp only [zP] at h;split at h
   ·cases h
   ·rename_i a
    have:=zqG n r y h (by omega) (by omega);simp only [yd];omega
theorem zgg {succ : List (List Int)} (h : zbk succ = true) : 1 ≤ succ.length ∧ succ.length ≤ 64 ∧ ∀ l ∈ succ,rising l succ.length = true:=by
 simp only [zbk,yv,Bool.or_eq_false_iff,decide_eq_false_iff_not,List.any_eq_false,yv,Bool.not_eq_false] at h;exact ⟨by omega,by omega,fun l a => by simpa using h.2.2 l a⟩
theorem zqV (B : Nat) : ∀ l : List Nat,(∀ x ∈ l,x ≤ B) → l.sum ≤ B * l.length
 | [],_ => by simp
 | x :: r,h => by
   have b:=h x (by simp);have c:=zqV B r fun y a => h y (by simp [a]);simp only [yB,yd,Nat.mul_add];omega
theorem zAG (succ : List (List Int)) (i : zjV succ) (p : succ.length ≤ 64) (h g : Ob) (l : h.lt 3 = true) (m : g.lt 3 = true) : ∀ (d k : Nat) (a0 a2 a3 a5 a6 a : V),succ.length - k = d → k ≤ succ.length →
  exec T zgD ⟨[a0,.one (.ptr 0 0 0 0),a2,a3,.one (.ap 2 0 ((succ.take k).map rl)),a5,a6,vLs succ,vI succ.length,vI k,a],[h,g,.tok 1 [k]],0,0⟩ =
   some (.exit 0,⟨[vU,.one (.ptr 0 0 0 0),vU,vU,.one (.ap 2 0 (succ.map rl)),vU,vU,vU,vU,vU,vU],[h,g,.tok 1 [succ.length]],0,0⟩):=by
 intro d
 induction d with
 | zero =>
   intro k a0 a2 a3 a5 a6 a o n;have b : k = succ.length:=(by omega);subst b;rw [xl zgD rfl,ziv];simp -implicitDefEqProofs only [go_sem,yf,List.take_length]
 | succ d ih =>
   intro k a0 a2 a3 a5 a6 a o n;have b : k < succ.length:=(by omega);have j:=zp6 succ[k] (i.2 _ (ye b));have f : (succ.take k).length = k:=(by simp; omega);have c : k + 1 ≤ LIM:=by unfold LIM; omega
   have e : (succ.take k).map rl ++ [[Fz.sl (succ[k].map ri)]] = (succ.take (k + 1)).map rl:=by
    rw [yi b,yk];rfl
   rw [xl zgD rfl,ziv];simp -implicitDefEqProofs only [go_sem] at j;simp -implicitDefEqProofs only [go_sem,ilt b,zm b,rl,j,f,c,za b i.1];have:=ih (k + 1) vU vU vU vU vU vU (by omega) (by omega);rw [← e] at this;simp -implicitDefEqProofs only [go_sem] at this;exact this
def zkf (succ : List (List Int)) : V:=if zbk succ = true then .tup [.agg [.f (.sl (succ.map rl)),.f (.sl ((zN succ).map rl))],vI 0] else .tup [.agg [.f (.sl []),.f (.sl [])],vI 5]
theorem zgS {succ : List (List Int)} (h : zbk succ = true) : (succ.map yn).sum ≤ 4294967296:=by
 obtain ⟨e,c,a⟩:=zgg h
 have:=zqV 64 (succ.map yn) (fun x b => by
  obtain ⟨l,d,rfl⟩:=yD.1 b;have:=zqG _ _ _ (a l d) (by omega) (by omega)
  omega)
 rw [yj] at this;have f : 64 * succ.length ≤ 64 * 64:=Nat.mul_le_mul_left _ c;omega
@[go_sem] theorem zjX (succ : List (List Int)) (e : zjV succ) : call T 147 [vLs succ] [] = some (zkf succ,[]):=by
  rw [ze (fn:=zfv) rfl];have d:=zjp succ (fun l => !rising l succ.length) 179 [] [.ptr 1 0 0 0] [.cells 0 2 [[.f (.sl []),.f (.sl [])]],.cells 0 1 [[.f (ei succ.length)]]] e.1 (fun x i => zny x _ (e.2 x i) _ _);simp -implicitDefEqProofs only [go_sem] at d
  by_cases c1 : succ.length < 1
  ·have a : (succ.length : Int) < 1:=by omega
   simp -implicitDefEqProofs only [go_sem,zfv,zkf,zbk,c1,a]
  have a : ¬ (succ.length : Int) < 1:=by omega
  by_cases c2 : 64 < succ.length
  ·have b : (64 : Int) < (succ.length : Int):=by omega
   simp -implicitDefEqProofs only [go_sem,zfv,zkf,zbk,c1,a,c2,b]
  have b : ¬ (64 : Int) < (succ.length : Int):=by omega
  cases c3 : succ.any fun l => !rising l succ.length
  ·have c : zbk succ = true:=by simp [zbk,c1,c2,c3]
   obtain ⟨o,m,n⟩:=zgg c;have h:=fun a0 a2 a3 a5 a6 j => zAG succ e m (.cells 0 2 [[.f (.sl []),.f (.sl [])]]) (.cells 0 1 [[.f (ei succ.length)]]) rfl rfl succ.length 0 a0 a2 a3 a5 a6 j (by omega) (by omega);have k:=zxD succ e.1 e.2 (fun l h x i => by have:=znn _ _ _ (n l h) x i; omega) (zgS c);have g : (succ.length : Int) ≤ (LIM : Int):=(by unfold LIM; omega);simp -implicitDefEqProofs only [go_sem,yy,yc] at h k;simp -implicitDefEqProofs only [go_sem,zfv,a,b,d,c3,g,ys,h,k,zkf,c]
  ·simp -implicitDefEqProofs only [go_sem,zfv,zkf,zbk,c1,a,c2,b,d,c3]
theorem zkE (l : List Int) : zgp (l.map ri) = some l:=by
 induction l with
 | nil => rfl
 | cons x r ih => simp [zgp,zvK,ri,zfF,ih]
theorem zdf (l : List Int) : zaf (l.map zl) = some (l.map ri):=by
 induction l with
 | nil => rfl
 | cons x r ih => simp [zaf,zdR,ztr,zl,zfF,ih,ri]
theorem zuz (l : List Int) (b : l.length ≤ 4294967296) (σ : zd) (id : Nat) (a : σ[id]? = some (.cells 0 1 [[.f (.sl (l.map ri))]])) :
  call T 145 [.one (.fn 177 [] [.ptr id 0 0 0])] σ = some (.one (.own σ.length 0 0 l.length),σ ++ [.cells 0 1 ((zcc l).map zl)]):=by
 rw [zks (g:=zg0 177) rfl];simp [zg0,zd.cell,zd.elem,a,Ob.elem,zmo,zkE,zlW,LIM,b]
theorem zub (l : List Int) (n : Nat) (b : l.length = n) (c : n ≤ 4294967296) (σ : zd) (id : Nat) (a : σ[id]? = some (.cells 0 1 (l.map zl))) :
  call T 118 [.one (.own id 0 0 n)] σ = some (vIs (zn l),σ.set id (.cells 1 1 [])):=by
 rw [zks (g:=zfp) rfl];subst b;simp [zfp,a,zhW,LIM,c,zdf,zkE,zku,vsl];exact fun _ _ => rfl
@[go_sem] theorem zvk (l : List Int) : call T 146 [vIs l] [] = some (.one (.fn 177 [] [.ptr 0 0 0 0]),[.cells 0 1 [[.f (.sl (l.map ri))]]]):=by
  rw [ze (fn:=zfh) rfl];simp -implicitDefEqProofs only [go_sem,zfh]
theorem znU (l : List Int) : (zcc l).length = l.length:=List.length_mergeSort l
theorem zoV (k n : Int) (b a : Ob) (r : zd) : call T 144 [vI k,.one (.ptr 2 0 0 0)] (b :: a :: .cells 0 1 [[.f (ei n)]] :: r) = some (vB (zkT n k),b :: a :: .cells 0 1 [[.f (ei n)]] :: r):=by
 rw [ze (fn:=zhD) rfl]
 by_cases c : k < 1
 ·simp -implicitDefEqProofs only [go_sem,zhD,zkT,c]
 ·by_cases d : n ≤ k <;> simp -implicitDefEqProofs only [go_sem,zhD,zkT,c,d]
def ziO (n : Nat) (b : PBlock) : Bool:=decide (zl4 b.kind = b.to.length) && !b.to.any (zkT n)
def ziw (n : Nat) : Nat → List PBlock → Option (Nat × PBlock)
 | _,[] => none
 | k,b :: r => if ziO n b = true then ziw n (k + 1) r else some (k,b)
def zul (l : List Int) : List Int:=zn (zcc l)
def zp (f : PFunc) : List (List Int):=f.blocks.map fun b => zul b.to
theorem zDp (f : PFunc) (o : okF f) (t : f.blocks.length ≤ 64) : ∀ (d k : Nat) (a0 a1 a3 a6 a7 c g : V),f.blocks.length - k = d → k ≤ f.blocks.length →
  exec T zi0 ⟨[a0,a1,.one (.ptr 1 0 0 0),a3,.one (.ptr 2 0 0 0),.one (.ap 3 0 (((zp f).take k).map rl)),a6,a7,vL (f.blocks.map rb),vI f.blocks.length,vI k,c,g],[.cells 0 3 [zc4 f],.cells 0 2 [[.f (.sl []),.f (.sl [])]],.cells 0 1 [[.f (ei f.blocks.length)]],.tok 1 [k]],0,0⟩ =
   some (match ziw f.blocks.length k (f.blocks.drop k) with
    | none => (.exit 0,⟨[vU,vU,.one (.ptr 1 0 0 0),vU,vU,.one (.ap 3 0 ((zp f).map rl)),vU,vU,vU,vU,vU,vU,vU],[.cells 0 3 [zc4 f],.cells 0 2 [[.f (.sl []),.f (.sl [])]],.cells 0 1 [[.f (ei f.blocks.length)]],.tok 1 [f.blocks.length]],0,0⟩)
    | some (j,b) => (.ret,⟨[vU,vU,.one (.ptr 1 0 0 0),vI 5,vU,vU,vU,vU,vU,vU,vU,vU,vU],[.cells 0 3 [zc4 f],.cells 0 2 [[.f (.sl []),.f (.sl [])]],.cells 0 1 [[.f (ei f.blocks.length)]],.tok 1 [j],.cells 0 5 [zh b]],0,0⟩)):=by
 intro d
 induction d with
 | zero =>
   intro k a0 a1 a3 a6 a7 c g s q;have a : k = f.blocks.length:=(by omega);subst a;have e : (zp f).take f.blocks.length = zp f:=yo (by simp [zp]);rw [xl zi0 rfl,zlh,e];simp -implicitDefEqProofs only [go_sem,yf,yg,ziw]
 | succ d ih =>
   intro k a0 a1 a3 a6 a7 c g s q;have a : k < f.blocks.length:=(by omega);have hd : f.blocks.drop k = f.blocks[k] :: f.blocks.drop (k + 1):=ya a;have hm:=o.block _ (ye a);rw [xl zi0 rfl,zlh,hd,ziw]
   by_cases c1 : zl4 f.blocks[k].kind = f.blocks[k].to.length
   ·have l:=zap f.blocks[k].to (zkT f.blocks.length) 144 [] [.ptr 2 0 0 0] [.cells 0 3 [zc4 f],.cells 0 2 [[.f (.sl []),.f (.sl [])]],.cells 0 1 [[.f (ei f.blocks.length)]],.tok 1 [k],.cells 0 5 [zh f.blocks[k]]] hm.to (fun x _ => zoV x _ _ _ _)
    cases c2 : f.blocks[k].to.any (zkT f.blocks.length)
    ·have m : ((zp f).take k).length = k:=by simp [zp]; omega
     have i : k + 1 ≤ LIM:=(by unfold LIM; omega);have p:=zvk f.blocks[k].to;have n:=zuz f.blocks[k].to hm.to [.cells 0 3 [zc4 f],.cells 0 2 [[.f (.sl []),.f (.sl [])]],.cells 0 1 [[.f (ei f.blocks.length)]],.tok 1 [k],.cells 0 5 [zh f.blocks[k]],.cells 0 1 [[.f (.sl (f.blocks[k].to.map ri))]]] 5 rfl;have h:=zub (zcc f.blocks[k].to) f.blocks[k].to.length (znU _) hm.to [.cells 0 3 [zc4 f],.cells 0 2 [[.f (.sl []),.f (.sl [])]],.cells 0 1 [[.f (ei f.blocks.length)]],.tok 1 [k],.cells 0 5 [zh f.blocks[k]],.cells 0 1 [[.f (.sl (f.blocks[k].to.map ri))]],.cells 0 1 ((zcc f.blocks[k].to).map zl)] 6 rfl
     have e : ((zp f).take k).map rl ++ [[Fz.sl ((zn (zcc f.blocks[k].to)).map ri)]] = ((zp f).take (k + 1)).map rl:=by
      rw [yi (by simpa [zp] using a),yk];simp [zp,rl,zul]
     have:=ih (k + 1) vU vU vU vU vU vU vU (by omega) (by omega);rw [← e] at this;simp -implicitDefEqProofs only [go_sem] at l p n h this;simp -implicitDefEqProofs only [go_sem,ilt a,zm a,rb,c1,l,c2,ziO,p,n,h,m,i,za a o.blocks] at this ⊢;exact this
    ·simp -implicitDefEqProofs only [go_sem] at l
     simp -implicitDefEqProofs only [go_sem,ilt a,zm a,rb,c1,l,c2,ziO]
   ·have r : ¬ zl4 f.blocks[k].kind = (f.blocks[k].to.length : Int):=c1
    simp -implicitDefEqProofs only [go_sem,ilt a,zm a,rb,c1,ziO]
theorem znD (n : Nat) : ∀ (bs : List PBlock) (k : Nat),(ziw n k bs).isNone = bs.all (ziO n)
 | [],_ => rfl
 | b :: r,k => by
   simp only [ziw,List.all_cons];cases h : ziO n b
   ·simp
   ·simpa using znD n r (k + 1)
theorem zj6 : ∀ l : List Int,(zn l).length ≤ l.length
 | [] => by simp [zn]
 | [x] => by simp [zn]
 | x :: y :: r => by
   have:=zj6 (y :: r);simp only [zn];split
   ·simp only [yd] at this ⊢; omega
   ·simp only [yd] at this ⊢; omega
theorem ztW (l : List Int) : (zul l).length ≤ l.length:=by
 have:=zj6 (zcc l)
 rwa [znU] at this
theorem zin {f : PFunc} (a : okF f) : zjV (zp f):=by
 refine ⟨by simpa [zp] using a.blocks,fun l d => ?_⟩;obtain ⟨b,c,rfl⟩:=yD.1 d;have:=ztW b.to;have:=(a.block b c).to;omega
def zay (f : PFunc) : Bool:=!decide (64 < f.blocks.length) && (f.blocks.all (ziO f.blocks.length) && zbk (zp f))
def zgy (f : PFunc) : V:=if zay f = true then .tup [.agg [.f (.sl ((zp f).map rl)),.f (.sl ((zN (zp f)).map rl))],vI 0] else .tup [.agg [.f (.sl []),.f (.sl [])],vI 5]
@[go_sem] theorem zl0 (f : PFunc) (i : okF f) : call T 98 [zfZ f] [] = some (zgy f,[]):=by
  rw [ze (fn:=zgQ) rfl]
  by_cases c1 : 64 < f.blocks.length
  ·have a : (64 : Int) < (f.blocks.length : Int):=by omega
   simp -implicitDefEqProofs only [go_sem,zgQ,c1,a,zgy,zay]
  have a : ¬ (64 : Int) < (f.blocks.length : Int):=by omega
  have d:=fun a0 a1 a3 a6 a7 g h => zDp f i (by omega) f.blocks.length 0 a0 a1 a3 a6 a7 g h (by omega) (by omega);have c:=znD f.blocks.length f.blocks 0;simp only [yh,yc,yy] at d
  cases e : ziw f.blocks.length 0 f.blocks with
  | some x =>
    rw [e] at c;simp only [Option.isNone_some] at c;obtain ⟨j,b⟩:=x;simp -implicitDefEqProofs only [go_sem,e] at d;simp -implicitDefEqProofs only [go_sem,zgQ,c1,a,d,zgy,zay,← c]
  | none =>
    rw [e] at c;simp only [Option.isNone_none] at c;have hm:=zjX (zp f) (zin i);cases e2 : zbk (zp f)
    ·simp -implicitDefEqProofs only [go_sem,e,zkf,e2] at d hm
     simp -implicitDefEqProofs only [go_sem,zgQ,c1,a,d,hm,zgy,zay,← c,e2]
    ·simp -implicitDefEqProofs only [go_sem,e,zkf,e2] at d hm
     simp -implicitDefEqProofs only [go_sem,zgQ,c1,a,d,hm,zgy,zay,← c,e2]
end AC
