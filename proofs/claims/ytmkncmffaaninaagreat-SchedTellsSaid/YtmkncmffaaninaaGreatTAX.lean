/- A part of the proof of SchedTells. Conditions: none. -/
import Derived.Test.YtmkncmffaaninaaGreatTAW
set_option linter.all false
open List renaming drop_eq_getElem_cons → ya,replicate → yb,length_cons → yd,getElem_mem → ye,drop_length → yg,drop_zero → yh,take_succ_eq_append_getElem → yi,length_map → yj,map_append → yk,count_cons_self → yl,range → ym,length → yn,take_of_length_le → yo,count_cons_of_ne → yp,getElem?_eq_none → yq,range_succ → yr,foldl_cons → yw,take_zero → yy,mem_cons → yz,sum_cons → yB,map_set → yC,mem_map → yD,map → yE
open Int renaming natCast_zero → yc,lt_irrefl → yf,natCast_nonneg → ys,toNat_natCast → yt,reduceEq → yu
open Bool renaming not_eq_true' → yv
open Nat renaming add_assoc → yx,add_comm → yA
namespace AC
open Go Go.A Go.A.Lex
set_option maxHeartbeats 4000000
theorem zsV (o : POp) (c : zvE o) : call T 127 [vOp o] [] = some (.tup [vI (zT o).1,vI (zT o).2],[]):=by
 rw [ze (fn:=zB) rfl];have b:=zmn o c;cases hm : zgN o
 ·simp -implicitDefEqProofs only [go_sem,hm] at b
  simp -implicitDefEqProofs only [go_sem,zB,zT,hm,b]
 simp -implicitDefEqProofs only [go_sem,hm] at b
 by_cases c1 : o.kind = 17
 ·simp -implicitDefEqProofs only [go_sem,zB,zT,zgg,hm,b,eq_true c1]
 by_cases c2 : o.kind = 19
 ·simp -implicitDefEqProofs only [go_sem,zB,zT,zgg,hm,b,c1,eq_true c2]
 by_cases c3 : 10 ≤ o.kind
 ·have a : o.kind ≥ 10:=c3
  by_cases c4 : o.kind ≤ 12
  ·simp -implicitDefEqProofs only [go_sem,zB,zT,zgg,hm,b,c1,c2,eq_true c3,eq_true a,eq_true c4]
  ·by_cases c5 : o.kind = 22
   ·simp -implicitDefEqProofs only [go_sem,zB,zT,zgg,hm,b,c1,c2,eq_true c3,eq_true a,c4,eq_true c5]
   ·simp -implicitDefEqProofs only [go_sem,zB,zT,zgg,hm,b,c1,c2,eq_true c3,eq_true a,c4,c5]
 ·have a : ¬ o.kind ≥ 10:=c3
  have c5 : ¬ o.kind = 22:=by omega
  simp -implicitDefEqProofs only [go_sem,zB,zT,zgg,hm,b,c1,c2,c3,a,c5,false_and]
def zmk (o : POp) (k : Nat) : Int × Int :=
 if o.kind = 13 ∨ o.kind = 20 then (if k = 0 then (1,1) else (o.bits,o.lanes))
 else if o.kind = 14 ∨ o.kind = 15 then (o.imm,1)
 else if o.kind = 16 ∨ o.kind = 17 then (if k = 0 then (64,1) else (o.bits,o.lanes))
 else if o.kind = 18 ∨ o.kind = 19 then (if k = 1 then (64,1) else if k = 0 then (1,1) else (o.bits,o.lanes))
 else if o.kind = 21 then (o.bits,1) else (o.bits,o.lanes)
theorem zoe {o : POp} (h : zgN o = true) : zdQ o.bits o.lanes = true ∧ (zO o).2 = true ∧ (zO o).1.length = o.args.length ∧ zhj o.kind = true:=by
 unfold zgN at h;simp only [Bool.and_eq_true,decide_eq_true_eq] at h;refine ⟨h.1,h.2.1,h.2.2.2.1,?_⟩;cases a : zhj o.kind
 ·rw [zqz a] at h
  exact absurd h.2.1 (by simp)
 ·rfl
theorem zuv {o : POp} (h : zgN o = true) (a : o.kind = 14 ∨ o.kind = 15) : 0 ≤ o.imm → o.imm ≤ 64:=by
 obtain ⟨c,b,_,_⟩:=zoe h;obtain ⟨hm,d⟩:=zf9 c;have e:=zdg hm;unfold zO at b;rcases a with a | a
 ·simp [a,arith,asks] at b
  omega
 ·simp [a,arith,asks] at b
  omega
theorem zyB {o : POp} (h : zgN o = true) (l : 0 ≤ o.imm) : (ym o.args.length).map (zmk o) = (zO o).1:=by
 obtain ⟨m,n,d,j⟩:=zoe h;have c:=fun f => zuv h f l;rw [← d];obtain ⟨kind,bits,a,dst,args,imm⟩:=o;dsimp only at *;rcases zit j with rfl | rfl | rfl | rfl | rfl | rfl | rfl | rfl | rfl | rfl | rfl | rfl | rfl | rfl | rfl | rfl | rfl | rfl | rfl | rfl | rfl | rfl | rfl
 all_goals first
  | rfl
  | (have e:=c (.inl rfl)
     have b : min imm 128 = imm:=(by omega);simp [zO,arith,asks,zmk,b,yr]
     done)
  | (have e:=c (.inr rfl)
     have b : min imm 128 = imm:=(by omega);simp [zO,arith,asks,zmk,b,yr]
     done)
  | (have g : zmk ⟨21,bits,a,dst,args,imm⟩ = fun _ => (bits,1):=by funext k; simp [zmk]
     have i : (zO ⟨21,bits,a,dst,args,imm⟩).1 = yb a.toNat (bits,1):=(by simp [zO,arith,asks]);rw [g,i,List.map_const',List.length_range,List.length_replicate]
     done)
theorem zv7 (o : POp) (u : zvE o) (hm : zgN o = true) : ∀ (d k : Nat) (a0 a2 a5 a6 a7 a8 a9 r i p l c m b g : V),o.args.length - k = d → k ≤ o.args.length →
  exec T zbO ⟨[a0,.one (.ptr 0 0 0 0),a2,.one (.ap 1 0 (((ym k).map (zmk o)).map rs)),vI k,a5,a6,a7,a8,a9,r,i,p,l,c,m,b,g],[.cells 0 6 [cOp o],.tok 2 [k]],0,0⟩ =
   some (.exit 0,⟨[vU,vU,vU,.one (.ap 1 0 (((ym o.args.length).map (zmk o)).map rs)),vU,vU,vU,vU,vU,vU,vU,vU,vU,vU,vU,vU,vU,vU],[.cells 0 6 [cOp o],.tok 2 [o.args.length]],0,0⟩):=by
 intro d
 induction d with
 | zero =>
   intro k a0 a2 a5 a6 a7 a8 a9 r i p l c m b g x y;have v : k = o.args.length:=(by omega);subst v;rw [xl zbO rfl,zed];simp -implicitDefEqProofs only [go_sem,yf,yj]
 | succ d ih =>
   intro k a0 a2 a5 a6 a7 a8 a9 r i p l c m b g x y;have v : k < o.args.length:=(by omega);have:=ih (k + 1) vU vU vU vU vU vU vU vU vU vU vU vU vU vU vU (by omega) (by omega);have a : k + 1 ≤ LIM:=(by have:=u.2; unfold LIM; omega);have hlen : (((ym k).map (zmk o)).map rs).length = k:=by simp
   have e1 : ((ym k).map (zmk o)).map rs ++ [rs (zmk o k)] = ((ym (k + 1)).map (zmk o)).map rs:=by
    rw [yr,yk,yk];rfl
   have hw : o.kind = 14 ∨ o.kind = 15 → Go.IntKind.i64.wrap o.imm = o.imm:=fun h => by
    have:=zuv hm h u.1.1;have:=u.1.1;rw [wrap_i64] <;> omega
   have q:=za v u.2;have f:=ilt v;obtain ⟨A,C,B,z⟩:=zoe hm;obtain ⟨acc,t⟩ : ∃ acc,acc = ((ym k).map (zmk o)).map rs:=⟨_,rfl⟩;rw [← t] at hlen e1 ⊢;obtain ⟨kind,bits,w,dst,args,imm⟩:=o;dsimp only at *;have j : ((k : Int) = 0) = (k = 0):=(by apply propext; omega);have n : ((k : Int) = 1) = (k = 1):=(by apply propext; omega);rw [xl zbO rfl,zed];simp -implicitDefEqProofs only [go_sem] at this;rcases zit z with rfl | rfl | rfl | rfl | rfl | rfl | rfl | rfl | rfl | rfl | rfl | rfl | rfl | rfl | rfl | rfl | rfl | rfl | rfl | rfl | rfl | rfl | rfl
   all_goals
    by_cases s : k = 0
    ·have e : ¬ k = 1:=by omega
     simp -implicitDefEqProofs only [zmk,rs,eq_true s,e,if_true,if_false,yu,or_false,or_true,false_or,true_or,or_self,Nat.reduceEqDiff,Nat.zero_ne_one] at e1 hw;simp -implicitDefEqProofs only [go_sem,yj,f,j,n,eq_true s,e,hlen,a,q,hw,e1,this]
    ·by_cases e : k = 1
     ·simp -implicitDefEqProofs only [zmk,rs,s,eq_true e,if_true,if_false,yu,or_false,or_true,false_or,true_or,or_self] at e1 hw
      simp -implicitDefEqProofs only [go_sem,yj,f,j,n,s,eq_true e,hlen,a,q,hw,e1,this]
     ·simp -implicitDefEqProofs only [zmk,rs,s,e,if_true,if_false,yu,or_false,or_true,false_or,true_or,or_self] at e1 hw
      simp -implicitDefEqProofs only [go_sem,yj,f,j,n,s,e,hlen,a,q,hw,e1,this]
end AC
namespace AC
def tr (t : List Int) (a : Int) : Int:=t.getD a.toNat (-2)
def zab (t : List Int) : Nat → Int → Int → Option Int
 | 0,_,_ => none
 | r + 1,n,a => if a < 0 then some (-1) else if (t.length : Int) ≤ a then some (-1) else if tr t a = -1 then some n else zab t r (n + 1) (tr t a)
def zE (t : List Int) (a : Int) : Int:=(zab t t.length 0 a).getD (-1)
def zaP (t : List Int) : Nat → Nat → List Int → Option Nat
 | _,n,[] => some n
 | k,n,x :: r => if x = -2 then zaP t (k + 1) n r else if zE t k < 0 then none else zaP t (k + 1) (if x = -1 then n + 1 else n) r
def zhh (t : List Int) : Bool:=zaP t 0 0 t == some 1
def inS (t : List Int) (l : List Int) : Bool:=zhh t && !l.any fun a => decide (zE t a < 0)
def zjF (t : List Int) : Nat → Int → Int → Int
 | 0,a,_ => a
 | r + 1,a,b => if a = b then a else if zE t b ≤ zE t a then zjF t r (tr t a) b else zjF t r a (tr t b)
def zyw (t : List Int) (a b : Int) : Int:=if inS t [a,b] = true then zjF t (zE t a + zE t b).toNat a b else -2
def zlP (t : List Int) (a b : Int) : Bool:=inS t [a,b] && decide (zyw t a b = a)
def inR (n : Nat) (a : Int) : Bool:=decide (0 ≤ a) && decide (a < n)
def zqN (t at' : List Int) : Nat → Int → Int → Option Int
 | 0,_,_ => none
 | r + 1,a,b => if inR t.length a && (inR at'.length a && inR at'.length b) then (if tr at' b < tr at' a then zqN t at' r (tr t a) b else some a) else none
def zvf (t at' : List Int) (K : Nat) : Nat → Int → Int → Option Int
 | 0,_,_ => none
 | r + 1,a,b => if a = b then some a else match zqN t at' K a b with
   | none => none
   | some a' => match zqN t at' K b a' with
     | none => none
     | some b' => zvf t at' K r a' b'
def znm (t at' : List Int) (K : Nat) : List Int → Int → Option Int
 | [],b => some b
 | p :: r,b => if inR t.length p = true then (if tr t p = -2 then znm t at' K r b else if b = -2 then znm t at' K r p else match zvf t at' K K b p with
   | none => none
   | some c => znm t at' K r c) else none
def ztL (pred : List (List Int)) (t at' : List Int) (K : Nat) : List Int → Option (Option (Int × Int))
 | [] => some none
 | x :: r => if inR t.length x = true then (match znm t at' K (pred.getD x.toNat []) (-2) with
   | none => none
   | some b => if tr t x = b then ztL pred t at' K r else some (some (x,b))) else none
def zh4 (pred : List (List Int)) (at' : List Int) (K : Nat) (tail : List Int) : Nat → List Int → Option (List Int)
 | 0,_ => none
 | r + 1,t => match ztL pred t at' K tail with
   | none => none
   | some none => some t
   | some (some (x,b)) => zh4 pred at' K tail r (t.set x.toNat b)
theorem zl8 {pred : List (List Int)} {at' : List Int} {K : Nat} {tail : List Int} : ∀ {r : Nat} {t a : List Int},zh4 pred at' K tail r t = some a → a.length = t.length
 | 0,_,_,h => by simp [zh4] at h
 | r + 1,t,a,h => by
   simp only [zh4] at h;split at h
   ·cases h
   ·injection h with h; rw [h]
   ·rw [zl8 h]; simp
def zkP : Nat → List Int → List Int → List Int
 | _,[],at' => at'
 | i,x :: r,at' => zkP (i + 1) r (at'.set x.toNat (i : Int))
theorem zjv : ∀ (l : List Int) (i : Nat) (a : List Int),(zkP i l a).length = a.length
 | [],_,_ => rfl
 | x :: r,i,a => by rw [zkP,zjv r]; simp
def zlK (n root : Nat) : List Int:=(yb n (-2 : Int)).set root root
def at0 (n : Nat) (order : List Int) : List Int:=zkP 0 order (yb n 0)
def scan (seen : List Bool) : List Int → Nat → Option (Int × Nat)
 | [],_ => none
 | y :: r,j => if seen.getD y.toNat false = true then scan seen r (j + 1) else some (y,j + 1)
structure DF where
 seen : List Bool
 next : List Nat
 out : List Int
 stk : List Int
def zxT (succ : List (List Int)) (x : Int) : Nat:=(succ.getD x.toNat []).length
def zg0 (succ : List (List Int)) (d : DF) (x : Int) : Option (Int × Nat):=scan d.seen ((succ.getD x.toNat []).drop (d.next.getD x.toNat 0)) (d.next.getD x.toNat 0)
def dfs (succ : List (List Int)) : Nat → DF → Option (List Int)
 | 0,_ => none
 | k + 1,d => match d.stk with
   | [] => none
   | x :: s => match zg0 succ d x with
     | some (y,j) => dfs succ k ⟨d.seen.set y.toNat true,d.next.set x.toNat j,d.out,y :: x :: s⟩
     | none => match s with
       | [] => some (d.out ++ [x])
       | _ :: _ => dfs succ k ⟨d.seen,d.next.set x.toNat (zxT succ x),d.out ++ [x],s⟩
structure DInv (succ : List (List Int)) (d : DF) : Prop where
 seen : d.seen.length = 64
 next : d.next.length = 64
 le : ∀ X,X < succ.length → d.next.getD X 0 ≤ (succ.getD X []).length
 stk : ∀ x ∈ d.stk,0 ≤ x ∧ x < (succ.length : Int)
theorem zBf {seen : List Bool} : ∀ {l : List Int} {k : Nat} {y : Int} {j : Nat},scan seen l k = some (y,j) → k < j ∧ j ≤ k + l.length ∧ y ∈ l
 | [],_,_,_,h => by simp [scan] at h
 | z :: r,k,y,j,h => by
   simp only [scan] at h;split at h
   ·have:=zBf h
    simp only [yd,yz];exact ⟨by omega,by omega,.inr this.2.2⟩
   ·simp only [Option.some.injEq,Prod.mk.injEq] at h
    obtain ⟨rfl,rfl⟩:=h;simp
def zrn : List Bool:=yb 64 false
def zpn : List Nat:=yb 64 0
def ztS (root : Int) : DF:=⟨zrn.set root.toNat true,zpn,[],[root]⟩
def zt8 (i : Int) (out : List (List Int)) (x : Int) : List (List Int):=out.set x.toNat (out.getD x.toNat [] ++ [i])
theorem zgu (i : Int) (out : List (List Int)) (x : Int) : (zt8 i out x).length = out.length:=by simp [zt8]
theorem zgV (i : Int) : ∀ (l : List Int) (out : List (List Int)),(l.foldl (zt8 i) out).length = out.length
 | [],_ => rfl
 | x :: r,out => by rw [yw,zgV i r,zgu]
def zbj : Nat → List (List Int) → List (List Int) → List (List Int)
 | _,[],out => out
 | i,l :: r,out => zbj (i + 1) r (l.foldl (zt8 i) out)
def zR (succ : List (List Int)) : List (List Int):=zbj 0 succ (yb succ.length [])
theorem zha : ∀ (l : List (List Int)) (i : Nat) (out : List (List Int)),(zbj i l out).length = out.length
 | [],_,_ => rfl
 | x :: r,i,out => by rw [zbj,zha r,zgV]
theorem zcf (succ : List (List Int)) : (zR succ).length = succ.length:=by rw [zR,zha]; simp
def zkN (succ : List (List Int)) : Prop:=succ.length ≤ 4294967296 ∧ ∀ l ∈ succ,l.length ≤ 4294967296
def zV (n : Int) : Int → List Int → Bool
 | _,[] => true
 | last,x :: r => if x ≤ last ∨ n ≤ x then false else zV n x r
def rising (l : List Int) (n : Int) : Bool:=zV n (-1) l
def zbA (succ : List (List Int)) : Bool:=!(decide (succ.length < 1) || (decide (64 < succ.length) || succ.any fun l => !rising l succ.length))
def zCf (succ pred : List (List Int)) : Bool:=zbA succ && decide (zR succ = pred)
def zna (k : Int) : Int:=if k = 0 ∨ k = 3 then 0 else if k = 1 then 1 else if k = 2 then 2 else -1
def zlN (n k : Int) : Bool:=decide (k < 1) || decide (n ≤ k)
theorem zbw {α : Type} {l : List α} {i : Nat} (v d : α) (h : i < l.length) : (l.set i v).getD i d = v:=by simp [h]
theorem getD_set_ne {α : Type} {l : List α} {i j : Nat} (v d : α) (h : i ≠ j) : (l.set i v).getD j d = l.getD j d:=by simp [List.getElem?_set_ne h]
theorem znD (t : List Int) : ∀ (r : Nat) (n a m : Int),0 ≤ n → zab t r n a = some m → m = -1 ∨ n ≤ m
 | 0,_,_,_,_,h => by simp [zab] at h
 | r + 1,n,a,m,hn,h => by
   simp only [zab] at h;split at h
   ·simp at h; omega
   split at h
   ·simp at h; omega
   split at h
   ·simp at h; omega
   ·have:=znD t r (n + 1) _ m (by omega) h
    omega
theorem zmZ (t : List Int) : ∀ (r : Nat) (n a m : Int),0 ≤ n → 0 ≤ m → zab t r (n + 1) a = some m → zab t r n a = some (m - 1)
 | 0,_,_,_,_,_,h => by simp [zab] at h
 | r + 1,n,a,m,hn,hm,h => by
   simp only [zab] at h ⊢;split at h
   ·simp at h; omega
   split at h
   ·simp at h; omega
   split at h
   ·rename_i d b c
    simp only [d,b,c,if_true,if_false,Option.some.injEq] at h ⊢;omega
   ·rename_i d b c
    simp only [d,b,c,if_false];exact zmZ t r (n + 1) _ m (by omega) hm h
theorem znM (t : List Int) : ∀ (r : Nat) (n a m : Int),zab t r n a = some m → zab t (r + 1) n a = some m
 | 0,_,_,_,h => by simp [zab] at h
 | r + 1,n,a,m,h => by
   rw [zab] at h ⊢;split at h
   ·rename_i b; simp only [b,if_true]; exact h
   split at h
   ·rename_i b c; simp only [b,c,if_true,if_false]; exact h
   split at h
   ·rename_i b c d; simp only [b,c,d,if_true,if_false]; exact h
   ·rename_i b c d
    simp only [b,c,d,if_false];exact znM t r (n + 1) _ m h
theorem zqY {t : List Int} {a : Int} (h : 0 ≤ zE t a) : zab t t.length 0 a = some (zE t a):=by
 unfold zE at h ⊢
 cases e : zab t t.length 0 a with
 | none => rw [e] at h; simp at h
 | some m => rfl
theorem zhR {t : List Int} {a : Int} (h : 0 ≤ zE t a) : 0 ≤ a ∧ a < t.length:=by
 have:=zqY h
 cases b : t.length with
 | zero => rw [b] at this; simp [zab] at this
 | succ r =>
   rw [b,zab] at this;split at this
   ·simp at this; omega
   split at this
   ·simp at this; omega
   ·rename_i d c
    rw [b] at c;omega
theorem zlk {t : List Int} {a : Int} (c : 0 ≤ a) (b : a < t.length) (h : tr t a = -1) : zE t a = 0:=by
 unfold zE
 cases d : t.length with
 | zero => omega
 | succ r =>
   rw [zab,if_neg (by omega),if_neg (by omega),if_pos h];rfl
theorem zf0 {t : List Int} {a : Int} (h : 0 ≤ zE t a) (e : tr t a ≠ -1) : 1 ≤ zE t a ∧ zE t (tr t a) = zE t a - 1:=by
 have b:=zqY h;obtain ⟨i,g⟩:=zhR h
 cases d : t.length with
 | zero => omega
 | succ r =>
   rw [d,zab,if_neg (by omega),if_neg (by omega),if_neg e] at b;have f:=znD t r (0 + 1) _ _ (by omega) b;have c:=znM t r _ _ _ (zmZ t r 0 _ _ (by omega) h b);refine ⟨by omega,?_⟩;rw [← d] at c;rw [zE,c];rfl
theorem zhN {t : List Int} {a : Int} (h : zE t a = 0) : tr t a = -1:=by
 by_cases c : tr t a = -1
 ·exact c
 ·have:=zf0 (by omega) c
  omega
theorem zgj (t : List Int) : ∀ (l : List Int) (k n m : Nat),zaP t k n l = some m → m = n + l.count (-1)
 | [],_,_,_,h => by simp [zaP] at h; simp [h]
 | x :: r,k,n,m,h => by
   simp only [zaP] at h;split at h
   ·rename_i a
    subst a;rw [zgj t r _ _ _ h,yp (by decide)]
   split at h
   ·cases h
   ·split at h
    ·rename_i a
     subst a;rw [zgj t r _ _ _ h,yl];omega
    ·rename_i a
     rw [zgj t r _ _ _ h,yp (by simpa using a)]
theorem zu8 {x : Int} : ∀ (l : List Int),l.count x ≤ 1 → ∀ i j (a : i < l.length) (b : j < l.length),l[i] = x → l[j] = x → i = j
 | [],_,i,_,a,_,_,_ => by simp at a
 | y :: r,h,i,j,a,b,e1,e2 => by
   have pos : ∀ k (c : k < r.length),r[k] = x → 1 ≤ r.count x:=fun k c e => by
    have : x ∈ r:=(by rw [← e]; exact ye c);exact List.count_pos_iff.2 this
   cases i with
   | zero =>
     cases j with
     | zero => rfl
     | succ j =>
       simp at e1 e2;subst e1;rw [yl] at h;have:=pos j (by simpa using b) e2;omega
   | succ i =>
     cases j with
     | zero =>
       simp at e1 e2;subst e2;rw [yl] at h;have:=pos i (by simpa using a) e1;omega
     | succ j =>
       have d : r.count x ≤ 1:=by
        rw [List.count_cons] at h;omega
       rw [zu8 r d i j (by simpa using a) (by simpa using b) (by simpa using e1) (by simpa using e2)]
theorem zuF {t : List Int} (h : zhh t = true) {a b : Int} (g : 0 ≤ a ∧ a < t.length) (i : 0 ≤ b ∧ b < t.length) (ea : tr t a = -1) (eb : tr t b = -1) : a = b:=by
 have e : zaP t 0 0 t = some 1:=by simpa [zhh] using h
 have f:=zgj t t 0 0 1 e;have c : a.toNat < t.length:=by omega
 have d : b.toNat < t.length:=by omega
 have:=zu8 t (x:=-1) (by omega) a.toNat b.toNat c d (by simpa [tr,c] using ea) (by simpa [tr,d] using eb);omega
theorem zFE {t : List Int} {a b : Int} (h : inS t [a,b] = true) : zhh t = true ∧ 0 ≤ zE t a ∧ 0 ≤ zE t b:=by
 simp [inS] at h;exact ⟨h.1,by omega,by omega⟩
end AC
namespace AC
open Go Go.A Go.A.Lex
@[go_sem] theorem zz7 (k : Int) : call T 143 [vI k] [] = some (vI (zna k),[]):=by
  rw [ze (fn:=zf6) rfl]
  by_cases c0 : k = 0
  ·simp -implicitDefEqProofs only [go_sem,zf6,zna,c0]
  by_cases c3 : k = 3
  ·simp -implicitDefEqProofs only [go_sem,zf6,zna,c0,c3]
  by_cases c1 : k = 1
  ·simp -implicitDefEqProofs only [go_sem,zf6,zna,c0,c3,c1]
  by_cases c2 : k = 2 <;> simp -implicitDefEqProofs only [go_sem,zf6,zna,c0,c3,c1,c2]
theorem zvS (l : List Int) (n : Int) (c : l.length ≤ 4294967296) : ∀ (d k : Nat) (last : Int) (a0 a2 a4 a8 a9 : V),l.length - k = d → k ≤ l.length →
  exec T zgf ⟨[a0,vI n,a2,vI last,a4,vIs l,vI l.length,vI k,a8,a9],[],0,0⟩ =
   some (if zV n last (l.drop k) = true then (.exit 0,⟨[vU,vU,vU,vU,vU,vU,vU,vU,vU,vU],[],0,0⟩) else (.ret,⟨[vU,vU,vB false,vU,vU,vU,vU,vU,vU,vU],[],0,0⟩)):=by
 intro d
 induction d with
 | zero =>
   intro k last a0 a2 a4 a8 a9 e b;have a : k = l.length:=(by omega);subst a;rw [xl zgf rfl,zhQ];simp -implicitDefEqProofs only [go_sem,yf,yg,zV]
 | succ d ih =>
   intro k last a0 a2 a4 a8 a9 e b;have a : k < l.length:=(by omega);have hd : l.drop k = l[k] :: l.drop (k + 1):=ya a;rw [xl zgf rfl,zhQ,hd]
   by_cases c1 : l[k] ≤ last
   ·simp -implicitDefEqProofs only [go_sem,ilt a,zj a,ri,c1,zV]
   ·by_cases c2 : n ≤ l[k]
    ·simp -implicitDefEqProofs only [go_sem,ilt a,zj a,ri,c1,c2,zV]
    ·simp -implicitDefEqProofs only [go_sem,ilt a,zj a,ri,c1,c2,zV,za a c]
     exact ih (k + 1) l[k] _ _ _ _ _ (by omega) (by omega)
@[go_sem] theorem zn3 (l : List Int) (n : Int) (b : l.length ≤ 4294967296) : call T 180 [vIs l,vI n] [] = some (vB (rising l n),[]):=by
  rw [ze (fn:=ziI) rfl];have h:=fun a0 a2 a4 a8 a9 => zvS l n b l.length 0 (-1) a0 a2 a4 a8 a9 (by omega) (by omega);simp only [yh,yc] at h;cases a : zV n (-1) l <;> simp -implicitDefEqProofs only [go_sem,a] at h <;> simp -implicitDefEqProofs only [go_sem,ziI,rising,h,a]
theorem zrg (l m : List Int) (h : l.length = m.length) (f : l.length ≤ 4294967296) (σ : zd) : ∀ (d k : Nat) (a2 a3 a4 a7 a8 : V),l.length - k = d → k ≤ l.length →
  exec T zdD ⟨[vIs l,vIs m,a2,a3,a4,vI l.length,vI k,a7,a8],σ,σ.length,σ.length⟩ =
   some (if l.drop k = m.drop k then (.exit 0,⟨[vU,vU,vU,vU,vU,vU,vU,vU,vU],σ,σ.length,σ.length⟩) else (.ret,⟨[vU,vU,vB false,vU,vU,vU,vU,vU,vU],σ,σ.length,σ.length⟩)):=by
 intro d
 induction d with
 | zero =>
   intro k a2 a3 a4 a7 a8 g i;have a : k = l.length:=(by omega);subst a;have e : m.drop l.length = []:=(by simp [h]);rw [xl zdD rfl,zf3,e];simp -implicitDefEqProofs only [go_sem,yf,yg]
 | succ d ih =>
   intro k a2 a3 a4 a7 a8 g i;have a : k < l.length:=(by omega);have b : k < m.length:=(by omega);have hd : l.drop k = l[k] :: l.drop (k + 1):=ya a;have c : m.drop k = m[k] :: m.drop (k + 1):=ya b;rw [xl zdD rfl,zf3,hd,c]
   by_cases c1 : l[k] = m[k]
   ·simp -implicitDefEqProofs only [go_sem,ilt a,zj a,zj b,ri,c1,za a f,List.cons.injEq]
    exact ih (k + 1) _ _ _ _ _ (by omega) (by omega)
   ·simp -implicitDefEqProofs only [go_sem,ilt a,zj a,zj b,ri,c1,List.cons.injEq,false_and]
@[go_sem] theorem zlZ (l m : List Int) (σ : zd) (c : l.length ≤ 4294967296) : call T 184 [vIs l,vIs m] σ = some (vB (decide (l = m)),σ):=by
  rw [ze (fn:=zcU) rfl]
  by_cases b : l.length = m.length
  ·have h:=fun a2 a3 a4 a7 a8 => zrg l m b c σ l.length 0 a2 a3 a4 a7 a8 (by omega) (by omega)
   have d : ((l.length : Int) = (m.length : Int)) = True:=(by simp [b]);simp only [yh,yc] at h
   by_cases he : l = m
   ·subst he
    simp -implicitDefEqProofs only [go_sem] at h;simp -implicitDefEqProofs only [go_sem,zcU,h]
   ·simp -implicitDefEqProofs only [go_sem,he] at h
    simp -implicitDefEqProofs only [go_sem,zcU,h,he,d]
  ·have he : ¬ l = m:=fun h => b (by rw [h])
   have a : ¬ (l.length : Int) = (m.length : Int):=(by omega);simp -implicitDefEqProofs only [go_sem,zcU,a,he]
theorem zrp (l m : List (List Int)) (o : l.length = m.length) (j : l.length ≤ 4294967296) (i : ∀ x ∈ l,x.length ≤ 4294967296) (σ : zd) : ∀ (d k : Nat) (a0 a3 a4 a5 a6 a7 b f : V),l.length - k = d → k ≤ l.length →
  exec T zbc ⟨[a0,vLs m,vFn 184 [],a3,a4,a5,a6,a7,vLs l,vI l.length,vI k,b,f],σ,σ.length,σ.length⟩ =
   some (if l.drop k = m.drop k then (.exit 0,⟨[vU,vU,vU,vU,vU,vU,vU,vU,vU,vU,vU,vU,vU],σ,σ.length,σ.length⟩) else (.ret,⟨[vU,vU,vU,vB false,vU,vU,vU,vU,vU,vU,vU,vU,vU],σ,σ.length,σ.length⟩)):=by
 intro d
 induction d with
 | zero =>
   intro k a0 a3 a4 a5 a6 a7 b f n p;have a : k = l.length:=(by omega);subst a;have e : m.drop l.length = []:=(by simp [o]);rw [xl zbc rfl,zdn,e];simp -implicitDefEqProofs only [go_sem,yf,yg]
 | succ d ih =>
   intro k a0 a3 a4 a5 a6 a7 b f n p;have a : k < l.length:=(by omega);have c : k < m.length:=(by omega);have hd : l.drop k = l[k] :: l.drop (k + 1):=ya a;have h : m.drop k = m[k] :: m.drop (k + 1):=ya c;have g:=zlZ l[k] m[k] σ (i _ (ye a));rw [xl zbc rfl,zdn,hd,h]
   by_cases c1 : l[k] = m[k]
   ·simp -implicitDefEqProofs only [go_sem,c1] at g
    simp -implicitDefEqProofs only [go_sem,ilt a,zj a,zj c,rl,c1,g,za a j,List.cons.injEq];exact ih (k + 1) _ _ _ _ _ _ _ _ (by omega) (by omega)
   ·simp -implicitDefEqProofs only [go_sem,c1] at g
    simp -implicitDefEqProofs only [go_sem,ilt a,zj a,zj c,rl,c1,g,List.cons.injEq,false_and]
@[go_sem] theorem zmH (l m : List (List Int)) (σ : zd) (g : l.length ≤ 4294967296) (c : ∀ x ∈ l,x.length ≤ 4294967296) : call T 183 [vLs l,vLs m,vFn 184 []] σ = some (vB (decide (l = m)),σ):=by
  rw [ze (fn:=zaK) rfl]
  by_cases b : l.length = m.length
  ·have h:=fun a0 a3 a4 a5 a6 a7 e d => zrp l m b g c σ l.length 0 a0 a3 a4 a5 a6 a7 e d (by omega) (by omega)
   have f : ((l.length : Int) = (m.length : Int)) = True:=(by simp [b]);simp only [yh,yc] at h
   by_cases he : l = m
   ·subst he
    simp -implicitDefEqProofs only [go_sem] at h;simp -implicitDefEqProofs only [go_sem,zaK,h]
   ·simp -implicitDefEqProofs only [go_sem,he] at h
    simp -implicitDefEqProofs only [go_sem,zaK,h,he,f]
  ·have he : ¬ l = m:=fun h => b (by rw [h])
   have a : ¬ (l.length : Int) = (m.length : Int):=(by omega);simp -implicitDefEqProofs only [go_sem,zaK,a,he]
def apR : Nat → List (List Int) → List (List C)
 | _,[] => []
 | q,l :: r => [.ap 0 q (l.map ri)] :: apR (q + 1) r
theorem zi1 : ∀ (out : List (List Int)) (q : Nat),(apR q out).length = out.length
 | [],_ => rfl
 | l :: r,q => by simp [apR,zi1 r (q + 1)]
theorem zwy : ∀ (out : List (List Int)) (q k : Nat) (h : k < out.length),(apR q out)[k]? = some [.ap 0 (q + k) (out[k].map ri)]
 | [],_,_,h => by simp at h
 | l :: r,q,0,_ => by simp [apR]
 | l :: r,q,k + 1,h => by
   simp only [apR,List.getElem?_cons_succ,List.getElem_cons_succ];rw [zwy r (q + 1) k (by simpa using h),yx,yA 1 k]
theorem zAB : ∀ (out : List (List Int)) (q k : Nat) (l : List Int),(apR q out).set k [.ap 0 (q + k) (l.map ri)] = apR q (out.set k l)
 | [],_,_,_ => rfl
 | x :: r,q,0,l => by simp [apR]
 | x :: r,q,k + 1,l => by
   simp only [apR,List.set_cons_succ];rw [← zAB r (q + 1) k l,yx,yA 1 k]
theorem zBZ : ∀ (out : List (List Int)) (q : Nat),zaj (apR q out) = some (out.map rl)
 | [],_ => rfl
 | x :: r,q => by simp [apR,zaj,zeq,zun,zgl,zBZ r (q + 1),rl]
theorem zFf (n : Nat) : (ym n).map (nest 0 [.f (.sl [])] 0) = apR 0 (yb n []):=by
 apply List.ext_getElem?;intro k
 by_cases a : k < n
 ·rw [zwy _ _ _ (by simpa using a)]
  simp [a,nest]
 ·rw [yq (by simp; omega),yq (by rw [zi1]; simp; omega)]
theorem zz4 {i : Int} {out : List (List Int)} {x : Int} {B : Nat} (h : ∀ y ∈ out,y.length ≤ B) : ∀ y ∈ zt8 i out x,y.length ≤ B + 1:=by
 intro y b;rcases List.mem_or_eq_of_mem_set b with a | a
 ·have:=h y a
  omega
 ·subst a
  simp only [List.length_append,yd,List.length_nil,List.getD_eq_getElem?_getD]
  cases e : out[x.toNat]? with
  | none => simp
  | some z =>
    have:=h z (List.mem_of_getElem? e);simp;omega
theorem ztv (i : Int) : ∀ (l : List Int) (out : List (List Int)) (B : Nat),(∀ y ∈ out,y.length ≤ B) → ∀ y ∈ l.foldl (zt8 i) out,y.length ≤ B + l.length
 | [],_,_,h => h
 | x :: r,out,B,h => fun y a => by
   have:=ztv i r (zt8 i out x) (B + 1) (zz4 h) y a;simp only [yd];omega
abbrev pst (out : List (List Int)) : zd:=[.tok 1 (out.map yn),.cells 0 1 (apR 0 out)]
theorem zDW (succ : List (List Int)) (i n : Nat) (l : List Int) (t : l.length ≤ 4294967296) (C : ∀ x ∈ l,0 ≤ x ∧ x < n) : ∀ (d k : Nat) (out : List (List Int)) (B : Nat) (a0 a1 a4 a5 a9 b : V),l.length - k = d → k ≤ l.length → out.length = n →
  (∀ y ∈ out,y.length ≤ B) → B + d ≤ 4294967296 →
  exec T zgO ⟨[a0,a1,.one (.own 1 0 0 n),vI i,a4,a5,vLs succ,vI succ.length,vI i,a9,vIs l,vI l.length,vI k,b],pst out,0,0⟩ =
   some (.exit 2,⟨[vU,vU,.one (.own 1 0 0 n),vU,vU,vU,vLs succ,vI succ.length,vI i,vU,vU,vU,vU,vU],pst ((l.drop k).foldl (zt8 i) out),0,0⟩):=by
 intro d
 induction d with
 | zero =>
   intro k out B a0 a1 a4 a5 a9 b v A r p w;have c : k = l.length:=(by omega);subst c;rw [xl zgO rfl,ziJ];simp -implicitDefEqProofs only [go_sem,yf,yg,List.foldl_nil]
 | succ d ih =>
   intro k out B a0 a1 a4 a5 a9 b v A r p w;have c : k < l.length:=(by omega);have hd : l.drop k = l[k] :: l.drop (k + 1):=ya c;obtain ⟨u,D⟩:=C _ (ye c);generalize hxe : l[k] = x at *;obtain ⟨j,rfl⟩ : ∃ j : Nat,x = j:=⟨x.toNat,by omega⟩;have f : j < out.length:=(by omega);have h : ((j : Int) < (n : Int)) = True:=(by simp; omega);have o:=zwy out 0 j f;have s:=fun m => zAB out 0 j m;simp only [Nat.zero_add] at o s;have z : (out.map yn)[j]? = some out[j].length:=by simp [f]
   have e : out[j].length + 1 ≤ LIM:=by
    have:=p _ (ye f);unfold LIM;omega
   have a : zt8 i out j = out.set j (out[j] ++ [(i : Int)]):=(by simp [zt8,f]);have q : (l.map ri)[k]? = some (ri (j : Int)):=(by rw [zj c,hxe]);rw [xl zgO rfl,ziJ,hd,yw];simp -implicitDefEqProofs only [go_sem,ilt c,q,ri,u,h,yt,o,z,e,zi1,yk,yC];have e1 : yE ri out[j] ++ [[Fz.lit (Value.int .i64 (i : Int))]] = yE ri (out[j] ++ [(i : Int)]):=(by simp [ri]);rw [e1];simp -implicitDefEqProofs only [go_sem,s,zi1,za c t,o]
   have g : ∀ y ∈ out.set j (out[j] ++ [(i : Int)]),y.length ≤ B + 1:=by
    rw [← a];exact zz4 p
   have:=ih (k + 1) (out.set j (out[j] ++ [(i : Int)])) (B + 1) vU vU vU vU vU vU (by omega) (by omega) (by simpa using r) g (by omega);rw [a];simp -implicitDefEqProofs only [go_sem,pst,yC] at this ⊢;exact this
theorem zDr (succ : List (List Int)) (q : succ.length ≤ 4294967296) (m : ∀ l ∈ succ,l.length ≤ 4294967296) (p : ∀ l ∈ succ,∀ x ∈ l,0 ≤ x ∧ x < succ.length) : ∀ (d k : Nat) (out : List (List Int)) (B : Nat) (a0 a1 a3 a4 a5 a9 f b e a : V),succ.length - k = d → k ≤ succ.length → out.length = succ.length →
  (∀ y ∈ out,y.length ≤ B) → B + ((succ.drop k).map yn).sum ≤ 4294967296 →
  exec T zgJ ⟨[a0,a1,.one (.own 1 0 0 succ.length),a3,a4,a5,vLs succ,vI succ.length,vI k,a9,f,b,e,a],pst out,0,0⟩ =
   some (.exit 0,⟨[vU,vU,.one (.own 1 0 0 succ.length),vU,vU,vU,vU,vU,vU,vU,vU,vU,vU,vU],pst (zbj k (succ.drop k) out),0,0⟩):=by
 intro d
 induction d with
 | zero =>
   intro k out B a0 a1 a3 a4 a5 a9 f b e a n o g h i;have c : k = succ.length:=(by omega);subst c;rw [xl zgJ rfl,ziK];simp -implicitDefEqProofs only [go_sem,yf,yg,zbj]
 | succ d ih =>
   intro k out B a0 a1 a3 a4 a5 a9 f b e a n o g h i;have c : k < succ.length:=(by omega);have hd : succ.drop k = succ[k] :: succ.drop (k + 1):=ya c;have hm:=ye c;rw [hd,List.map_cons,yB] at i;have j:=fun a0 a1 a4 a5 a9 a => zDW succ k succ.length succ[k] (m _ hm) (p _ hm) succ[k].length 0 out B a0 a1 a4 a5 a9 a (by omega) (by omega) g h (by omega);have:=ih (k + 1) (succ[k].foldl (zt8 k) out) (B + succ[k].length) vU vU vU vU vU vU vU vU vU vU (by omega) (by omega) (by rw [zgV,g]) (ztv _ _ _ _ h) (by omega);rw [xl zgJ rfl,ziK,hd,zbj];simp -implicitDefEqProofs only [go_sem,pst,yh,yc] at j this;simp -implicitDefEqProofs only [go_sem,ilt c,zj c,rl,pst,j,za c q];exact this
theorem zyl (succ : List (List Int)) (m : succ.length ≤ 4294967296) (g : ∀ l ∈ succ,l.length ≤ 4294967296) (k : ∀ l ∈ succ,∀ x ∈ l,0 ≤ x ∧ x < succ.length) (i : (succ.map yn).sum ≤ 4294967296) :
  call T 182 [vLs succ] [] = some (vLs (zR succ),[]):=by
 rw [ze (fn:=zjY) rfl];have h:=fun a0 a1 a3 a4 a5 a9 f b e d => zDr succ m g k succ.length 0 (yb succ.length []) 0 a0 a1 a3 a4 a5 a9 f b e d (by omega) (by omega) (by simp) (fun y j => by rw [(List.mem_replicate.1 j).2]; simp) (by simpa using i);have hlen : (apR 0 (zbj 0 succ (yb succ.length []))).length = succ.length:=by rw [zi1,zha]; simp
 have a : (succ.length : Int) ≤ (LIM : Int):=by unfold LIM; omega
 have c : (apR 0 (zbj 0 succ (yb succ.length []))).take succ.length = apR 0 (zbj 0 succ (yb succ.length [])):=yo (by omega);simp -implicitDefEqProofs only [go_sem,pst,yh,yc,List.map_replicate] at h;simp -implicitDefEqProofs only [go_sem,zjY,a,zFf,h,ys,yt,c,zBZ,zR]
theorem zlr {f : Nat} {g : List V → zd → Option (V × zd)} (h : T f = some (.ext g)) (args : List V) (σ : zd) : call T f args σ = g args σ:=by
 simp only [call,zgp,h]
theorem zv2 (l : List Int) : zoV 1 (l.map ri) = true:=by
 induction l with
 | nil => rfl
 | cons x r ih => simp [zoV,ri,ih]
@[go_sem] theorem zrz (l : List Int) (a : l.length ≤ 4294967296) : call T 181 [vIs l] [] = some (vIs l,[]):=by
  rw [zlr (g:=zi0 1) rfl];simp [zi0,zpp,zv2,LIM,a]
theorem zoC (l : List Int) (n : Int) (a : l.length ≤ 4294967296) (o : Ob) (r : zd) : call T 179 [vIs l,.one (.ptr 1 0 0 0)] (o :: .cells 0 1 [[.f (ei n)]] :: r) = some (vB (!rising l n),o :: .cells 0 1 [[.f (ei n)]] :: r):=by
 rw [ze (fn:=ziL) rfl];have h:=zn3 l n a;simp -implicitDefEqProofs only [go_sem] at h;simp -implicitDefEqProofs only [go_sem,ziL,h]
theorem znV (n : Int) : ∀ (l : List Int) (last : Int),zV n last l = true → ∀ x ∈ l,last < x ∧ x < n
 | [],_,_,x,h => by simp at h
 | y :: r,last,h,x,a => by
   simp only [zV] at h;split at h
   ·cases h
   ·rename_i b
    rcases yz.1 a with rfl | a
    ·omega
    ·have:=znV n r y h x a
     omega
theorem zrH (n : Int) : ∀ (l : List Int) (last : Int),zV n last l = true → -1 ≤ last → last < n → (l.length : Int) ≤ n - last - 1
 | [],last,_,h1,h2 => by simp; omega
 | y :: r,last,h,h1,h2 => by
   simp only [zV] at h;split at h
   ·cases h
   ·rename_i a
    have:=zrH n r y h (by omega) (by omega);simp only [yd];omega
theorem zgY {succ : List (List Int)} (h : zbA succ = true) : 1 ≤ succ.length ∧ succ.length ≤ 64 ∧ ∀ l ∈ succ,rising l succ.length = true:=by
 simp only [zbA,yv,Bool.or_eq_false_iff,decide_eq_false_iff_not,List.any_eq_false,yv,Bool.not_eq_false] at h;exact ⟨by omega,by omega,fun l a => by simpa using h.2.2 l a⟩
theorem zrC (B : Nat) : ∀ l : List Nat,(∀ x ∈ l,x ≤ B) → l.sum ≤ B * l.length
 | [],_ => by simp
 | x :: r,h => by
   have c:=h x (by simp);have b:=zrC B r fun y a => h y (by simp [a]);simp only [yB,yd,Nat.mul_add];omega
theorem zAW (succ : List (List Int)) (l : zkN succ) (p : succ.length ≤ 64) (f h : Ob) (m : f.lt 3 = true) (j : h.lt 3 = true) : ∀ (d k : Nat) (a0 a2 a3 a5 a6 b : V),succ.length - k = d → k ≤ succ.length →
  exec T zhu ⟨[a0,.one (.ptr 0 0 0 0),a2,a3,.one (.ap 2 0 ((succ.take k).map rl)),a5,a6,vLs succ,vI succ.length,vI k,b],[f,h,.tok 1 [k]],0,0⟩ =
   some (.exit 0,⟨[vU,.one (.ptr 0 0 0 0),vU,vU,.one (.ap 2 0 (succ.map rl)),vU,vU,vU,vU,vU,vU],[f,h,.tok 1 [succ.length]],0,0⟩):=by
 intro d
 induction d with
 | zero =>
   intro k a0 a2 a3 a5 a6 b n o;have a : k = succ.length:=(by omega);subst a;rw [xl zhu rfl,zjL];simp -implicitDefEqProofs only [go_sem,yf,List.take_length]
 | succ d ih =>
   intro k a0 a2 a3 a5 a6 b n o;have a : k < succ.length:=(by omega);have i:=zrz succ[k] (l.2 _ (ye a));have g : (succ.take k).length = k:=(by simp; omega);have c : k + 1 ≤ LIM:=by unfold LIM; omega
   have e : (succ.take k).map rl ++ [[Fz.sl (succ[k].map ri)]] = (succ.take (k + 1)).map rl:=by
    rw [yi a,yk];rfl
   rw [xl zhu rfl,zjL];simp -implicitDefEqProofs only [go_sem] at i;simp -implicitDefEqProofs only [go_sem,ilt a,zj a,rl,i,g,c,za a l.1];have:=ih (k + 1) vU vU vU vU vU vU (by omega) (by omega);rw [← e] at this;simp -implicitDefEqProofs only [go_sem] at this;exact this
def zkJ (succ : List (List Int)) : V:=if zbA succ = true then .tup [.agg [.f (.sl (succ.map rl)),.f (.sl ((zR succ).map rl))],vI 0] else .tup [.agg [.f (.sl []),.f (.sl [])],vI 5]
theorem zhB {succ : List (List Int)} (h : zbA succ = true) : (succ.map yn).sum ≤ 4294967296:=by
 obtain ⟨e,a,b⟩:=zgY h
 have:=zrC 64 (succ.map yn) (fun x c => by
  obtain ⟨l,d,rfl⟩:=yD.1 c;have:=zrH _ _ _ (b l d) (by omega) (by omega)
  omega)
 rw [yj] at this;have f : 64 * succ.length ≤ 64 * 64:=Nat.mul_le_mul_left _ a;omega
@[go_sem] theorem zkZ (succ : List (List Int)) (g : zkN succ) : call T 147 [vLs succ] [] = some (zkJ succ,[]):=by
  rw [ze (fn:=zgb) rfl];have d:=zkd succ (fun l => !rising l succ.length) 179 [] [.ptr 1 0 0 0] [.cells 0 2 [[.f (.sl []),.f (.sl [])]],.cells 0 1 [[.f (ei succ.length)]]] g.1 (fun x i => zoC x _ (g.2 x i) _ _);simp -implicitDefEqProofs only [go_sem] at d
  by_cases c1 : succ.length < 1
  ·have a : (succ.length : Int) < 1:=by omega
   simp -implicitDefEqProofs only [go_sem,zgb,zkJ,zbA,c1,a]
  have a : ¬ (succ.length : Int) < 1:=by omega
  by_cases c2 : 64 < succ.length
  ·have b : (64 : Int) < (succ.length : Int):=by omega
   simp -implicitDefEqProofs only [go_sem,zgb,zkJ,zbA,c1,a,c2,b]
  have b : ¬ (64 : Int) < (succ.length : Int):=by omega
  cases c3 : succ.any fun l => !rising l succ.length
  ·have c : zbA succ = true:=by simp [zbA,c1,c2,c3]
   obtain ⟨o,m,n⟩:=zgY c;have h:=fun a0 a2 a3 a5 a6 j => zAW succ g m (.cells 0 2 [[.f (.sl []),.f (.sl [])]]) (.cells 0 1 [[.f (ei succ.length)]]) rfl rfl succ.length 0 a0 a2 a3 a5 a6 j (by omega) (by omega);have k:=zyl succ g.1 g.2 (fun l h x i => by have:=znV _ _ _ (n l h) x i; omega) (zhB c);have e : (succ.length : Int) ≤ (LIM : Int):=(by unfold LIM; omega);simp -implicitDefEqProofs only [go_sem,yy,yc] at h k;simp -implicitDefEqProofs only [go_sem,zgb,a,b,d,c3,e,ys,h,k,zkJ,c]
  ·simp -implicitDefEqProofs only [go_sem,zgb,zkJ,zbA,c1,a,c2,b,d,c3]
theorem zlt (l : List Int) : zg5 (l.map ri) = some l:=by
 induction l with
 | nil => rfl
 | cons x r ih => simp [zg5,zxu,ri,zgl,ih]
theorem zdA (l : List Int) : zaj (l.map zn) = some (l.map ri):=by
 induction l with
 | nil => rfl
 | cons x r ih => simp [zaj,zeq,zun,zn,zgl,ih,ri]
theorem zwi (l : List Int) (b : l.length ≤ 4294967296) (σ : zd) (id : Nat) (a : σ[id]? = some (.cells 0 1 [[.f (.sl (l.map ri))]])) :
  call T 145 [.one (.fn 177 [] [.ptr id 0 0 0])] σ = some (.one (.own σ.length 0 0 l.length),σ ++ [.cells 0 1 ((zcx l).map zn)]):=by
 rw [zlr (g:=zhW 177) rfl];simp [zhW,zd.cell,zd.elem,a,Ob.elem,zmU,zlt,znr,LIM,b]
theorem zt6 (l : List Int) (n : Nat) (a : l.length = n) (b : n ≤ 4294967296) (σ : zd) (id : Nat) (c : σ[id]? = some (.cells 0 1 (l.map zn))) :
  call T 118 [.one (.own id 0 0 n)] σ = some (vIs (zp l),σ.set id (.cells 1 1 [])):=by
 rw [zlr (g:=zf4) rfl];subst a;simp [zf4,c,ziA,LIM,b,zdA,zlt,zla,vsl];exact fun _ _ => rfl
@[go_sem] theorem zvO (l : List Int) : call T 146 [vIs l] [] = some (.one (.fn 177 [] [.ptr 0 0 0 0]),[.cells 0 1 [[.f (.sl (l.map ri))]]]):=by
  rw [ze (fn:=zfU) rfl];simp -implicitDefEqProofs only [go_sem,zfU]
theorem zoG (l : List Int) : (zcx l).length = l.length:=List.length_mergeSort l
theorem zq1 (k n : Int) (b a : Ob) (r : zd) : call T 144 [vI k,.one (.ptr 2 0 0 0)] (b :: a :: .cells 0 1 [[.f (ei n)]] :: r) = some (vB (zlN n k),b :: a :: .cells 0 1 [[.f (ei n)]] :: r):=by
 rw [ze (fn:=zim) rfl]
 by_cases c : k < 1
 ·simp -implicitDefEqProofs only [go_sem,zim,zlN,c]
 ·by_cases d : n ≤ k <;> simp -implicitDefEqProofs only [go_sem,zim,zlN,c,d]
def zjr (n : Nat) (b : PBlock) : Bool:=decide (zna b.kind = b.to.length) && !b.to.any (zlN n)
def zjk (n : Nat) : Nat → List PBlock → Option (Nat × PBlock)
 | _,[] => none
 | k,b :: r => if zjr n b = true then zjk n (k + 1) r else some (k,b)
def zvr (l : List Int) : List Int:=zp (zcx l)
def zq (f : PFunc) : List (List Int):=f.blocks.map fun b => zvr b.to
theorem zEL (f : PFunc) (o : okF f) (t : f.blocks.length ≤ 64) : ∀ (d k : Nat) (a0 a1 a3 a6 a7 c g : V),f.blocks.length - k = d → k ≤ f.blocks.length →
  exec T zj0 ⟨[a0,a1,.one (.ptr 1 0 0 0),a3,.one (.ptr 2 0 0 0),.one (.ap 3 0 (((zq f).take k).map rl)),a6,a7,vL (f.blocks.map rb),vI f.blocks.length,vI k,c,g],[.cells 0 3 [z6 f],.cells 0 2 [[.f (.sl []),.f (.sl [])]],.cells 0 1 [[.f (ei f.blocks.length)]],.tok 1 [k]],0,0⟩ =
   some (match zjk f.blocks.length k (f.blocks.drop k) with
    | none => (.exit 0,⟨[vU,vU,.one (.ptr 1 0 0 0),vU,vU,.one (.ap 3 0 ((zq f).map rl)),vU,vU,vU,vU,vU,vU,vU],[.cells 0 3 [z6 f],.cells 0 2 [[.f (.sl []),.f (.sl [])]],.cells 0 1 [[.f (ei f.blocks.length)]],.tok 1 [f.blocks.length]],0,0⟩)
    | some (j,b) => (.ret,⟨[vU,vU,.one (.ptr 1 0 0 0),vI 5,vU,vU,vU,vU,vU,vU,vU,vU,vU],[.cells 0 3 [z6 f],.cells 0 2 [[.f (.sl []),.f (.sl [])]],.cells 0 1 [[.f (ei f.blocks.length)]],.tok 1 [j],.cells 0 5 [zg b]],0,0⟩)):=by
 intro d
 induction d with
 | zero =>
   intro k a0 a1 a3 a6 a7 c g s q;have a : k = f.blocks.length:=(by omega);subst a;have e : (zq f).take f.blocks.length = zq f:=yo (by simp [zq]);rw [xl zj0 rfl,zmF,e];simp -implicitDefEqProofs only [go_sem,yf,yg,zjk]
 | succ d ih =>
   intro k a0 a1 a3 a6 a7 c g s q;have a : k < f.blocks.length:=(by omega);have hd : f.blocks.drop k = f.blocks[k] :: f.blocks.drop (k + 1):=ya a;have hm:=o.block _ (ye a);rw [xl zj0 rfl,zmF,hd,zjk]
   by_cases c1 : zna f.blocks[k].kind = f.blocks[k].to.length
   ·have l:=zaz f.blocks[k].to (zlN f.blocks.length) 144 [] [.ptr 2 0 0 0] [.cells 0 3 [z6 f],.cells 0 2 [[.f (.sl []),.f (.sl [])]],.cells 0 1 [[.f (ei f.blocks.length)]],.tok 1 [k],.cells 0 5 [zg f.blocks[k]]] hm.to (fun x _ => zq1 x _ _ _ _)
    cases c2 : f.blocks[k].to.any (zlN f.blocks.length)
    ·have m : ((zq f).take k).length = k:=by simp [zq]; omega
     have i : k + 1 ≤ LIM:=(by unfold LIM; omega);have n:=zvO f.blocks[k].to;have p:=zwi f.blocks[k].to hm.to [.cells 0 3 [z6 f],.cells 0 2 [[.f (.sl []),.f (.sl [])]],.cells 0 1 [[.f (ei f.blocks.length)]],.tok 1 [k],.cells 0 5 [zg f.blocks[k]],.cells 0 1 [[.f (.sl (f.blocks[k].to.map ri))]]] 5 rfl;have h:=zt6 (zcx f.blocks[k].to) f.blocks[k].to.length (zoG _) hm.to [.cells 0 3 [z6 f],.cells 0 2 [[.f (.sl []),.f (.sl [])]],.cells 0 1 [[.f (ei f.blocks.length)]],.tok 1 [k],.cells 0 5 [zg f.blocks[k]],.cells 0 1 [[.f (.sl (f.blocks[k].to.map ri))]],.cells 0 1 ((zcx f.blocks[k].to).map zn)] 6 rfl
     have e : ((zq f).take k).map rl ++ [[Fz.sl ((zp (zcx f.blocks[k].to)).map ri)]] = ((zq f).take (k + 1)).map rl:=by
      rw [yi (by simpa [zq] using a),yk];simp [zq,rl,zvr]
     have:=ih (k + 1) vU vU vU vU vU vU vU (by omega) (by omega);rw [← e] at this;simp -implicitDefEqProofs only [go_sem] at l n p h this;simp -implicitDefEqProofs only [go_sem,ilt a,zj a,rb,c1,l,c2,zjr,n,p,h,m,i,za a o.blocks] at this ⊢;exact this
    ·simp -implicitDefEqProofs only [go_sem] at l
     simp -implicitDefEqProofs only [go_sem,ilt a,zj a,rb,c1,l,c2,zjr]
   ·have r : ¬ zna f.blocks[k].kind = (f.blocks[k].to.length : Int):=c1
    simp -implicitDefEqProofs only [go_sem,ilt a,zj a,rb,c1,zjr]
theorem zoS (n : Nat) : ∀ (bs : List PBlock) (k : Nat),(zjk n k bs).isNone = bs.all (zjr n)
 | [],_ => rfl
 | b :: r,k => by
   simp only [zjk,List.all_cons];cases h : zjr n b
   ·simp
   ·simpa using zoS n r (k + 1)
theorem zkI : ∀ l : List Int,(zp l).length ≤ l.length
 | [] => by simp [zp]
 | [x] => by simp [zp]
 | x :: y :: r => by
   have:=zkI (y :: r);simp only [zp];split
   ·simp only [yd] at this ⊢; omega
   ·simp only [yd] at this ⊢; omega
theorem ztW (l : List Int) : (zvr l).length ≤ l.length:=by
 have:=zkI (zcx l)
 rwa [zoG] at this
theorem zi6 {f : PFunc} (a : okF f) : zkN (zq f):=by
 refine ⟨by simpa [zq] using a.blocks,fun l c => ?_⟩;obtain ⟨b,d,rfl⟩:=yD.1 c;have:=ztW b.to;have:=(a.block b d).to;omega
def zaI (f : PFunc) : Bool:=!decide (64 < f.blocks.length) && (f.blocks.all (zjr f.blocks.length) && zbA (zq f))
def zhk (f : PFunc) : V:=if zaI f = true then .tup [.agg [.f (.sl ((zq f).map rl)),.f (.sl ((zR (zq f)).map rl))],vI 0] else .tup [.agg [.f (.sl []),.f (.sl [])],vI 5]
@[go_sem] theorem znC (f : PFunc) (i : okF f) : call T 98 [zd4 f] [] = some (zhk f,[]):=by
  rw [ze (fn:=zhG) rfl]
  by_cases c1 : 64 < f.blocks.length
  ·have a : (64 : Int) < (f.blocks.length : Int):=by omega
   simp -implicitDefEqProofs only [go_sem,zhG,c1,a,zhk,zaI]
  have a : ¬ (64 : Int) < (f.blocks.length : Int):=by omega
  have c:=fun a0 a1 a3 a6 a7 h g => zEL f i (by omega) f.blocks.length 0 a0 a1 a3 a6 a7 h g (by omega) (by omega);have d:=zoS f.blocks.length f.blocks 0;simp only [yh,yc,yy] at c
  cases e : zjk f.blocks.length 0 f.blocks with
  | some x =>
    rw [e] at d;simp only [Option.isNone_some] at d;obtain ⟨j,b⟩:=x;simp -implicitDefEqProofs only [go_sem,e] at c;simp -implicitDefEqProofs only [go_sem,zhG,c1,a,c,zhk,zaI,← d]
  | none =>
    rw [e] at d;simp only [Option.isNone_none] at d;have hm:=zkZ (zq f) (zi6 i);cases e2 : zbA (zq f)
    ·simp -implicitDefEqProofs only [go_sem,e,zkJ,e2] at c hm
     simp -implicitDefEqProofs only [go_sem,zhG,c1,a,c,hm,zhk,zaI,← d,e2]
    ·simp -implicitDefEqProofs only [go_sem,e,zkJ,e2] at c hm
     simp -implicitDefEqProofs only [go_sem,zhG,c1,a,c,hm,zhk,zaI,← d,e2]
end AC
