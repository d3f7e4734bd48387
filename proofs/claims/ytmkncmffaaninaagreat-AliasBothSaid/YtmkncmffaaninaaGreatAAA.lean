/- A part of the proof of AliasBoth. Conditions: none. -/
import GoSem.Core.View
set_option linter.all false
open Option renaming bind_eq_some_iff → ya,map_eq_some_iff → yb
open List renaming all_eq_true → yc,replicate → yf,all_cons → yh,range → yi
open Nat renaming le_max_left → yd,le_max_right → ye
open Bool renaming and_eq_true → yg
namespace Go.A
inductive Fz where
 | lit (v : Value)
 | sl (xs : List (List Fz))
 deriving Inhabited
inductive C where
 | f (x : Fz)
 | ap (tok k : Nat) (xs : List (List Fz))
 | ptr (id ver i off : Nat)
 | fp (cs : List Fz) (off : Nat)
 | own (id ver lo n : Nat)
 | map (id : Nat)
 | fn (f : Nat) (first caps : List C)
 | un
 deriving Inhabited
inductive V where
 | one (c : C)
 | agg (cs : List C)
 | tup (vs : List V)
 deriving Inhabited
inductive Ob where
 | cells (ver sz : Nat) (es : List (List C))
 | tok (sz : Nat) (fr : List Nat)
 | mp (es : List (Int × V))
 deriving Inhabited
abbrev zb:=List Ob
inductive X where
 | l (d : Nat)
 | s (t : Nat)
 | c (v : V)
inductive Mode where
 | cl
 | ck
 | op
inductive B where
 | fz
 | tk
 | rw
inductive Op where
 | mv (x : X)
 | pick (c a b : X)
 | bin (op : BinOp) (x y : X)
 | eqa (n : Nat) (neg : Bool) (x y : X)
 | beq (neg : Bool) (x y : X)
 | un (op : UnOp) (x : X)
 | conv (k : IntKind) (x : X)
 | len (x : X)
 | fa (off : Nat) (x : X)
 | ia (sz : Nat) (x i : X)
 | iaa (n sz : Nat) (x i : X)
 | ld (sz : Option Nat) (x : X)
 | st (sz : Nat) (x v : X)
 | al (zero : List C) (fresh : List (Nat × Nat))
 | box (sz : Nat) (x : X)
 | bld (zero : List C) (parts : List (Nat × Nat × X)) (fresh : List (Nat × Nat))
 | bsl (b : B) (sz : Nat) (zero : List (List C)) (parts : List (Nat × X))
 | nl (b : B) (sz : Nat)
 | app (sz : Nat) (s x : X)
 | cpy (sz : Nat) (x y : X)
 | mks (zero : List C) (fresh : Option (Nat × Nat)) (n : X)
 | mkc (sz : Nat) (n : X)
 | slc (sz : Nat) (x : X) (lo hi mx : Option X)
 | ext (x : X) (i : Nat)
 | fld (off : Nat) (sz : Option Nat) (x : X)
 | nil (x : X)
 | mkf (f : Nat) (first caps : List X)
 | mkm
 | lk (zero : V) (ok : Bool) (m k : X)
 | mu (m k v : X)
 | mxn (isMax : Bool) (x y : X)
 | call (m : Mode) (f : X) (args : List X)
 | no (why : String)
inductive D where
 | no
 | loc
 | slot (t : Nat)
structure Oper where
 dst : D
 op : Op
 guard : Option (X × Bool)
structure Spec where
 pre : List Oper
 m : X
 dst : Nat
 off : Nat
 sz : Option Nat
 row : Nat
 ns : List Nat
inductive Code where
 | skip
 | reg (ops : List Oper)
 | regd (ps : List (Nat × Nat)) (ops : List Oper)
 | spec (sp : Spec)
 | seq (a b : Code)
 | cond (c : X) (thn els : Code)
 | block (id : Nat) (body : Code)
 | loop (live : List Bool) (objs : Nat) (body : Code)
 | exit (id : Nat) (live : List Bool) (objs : Nat)
 | scope (body : Code)
 | sc (body cur : Code)
 | label (l : Nat)
 | goto (l : Nat) (live : List Bool) (objs : Nat)
 | ret (live : List Bool)
structure Fun where
 np : Nat
 nslots : Nat
 keep : Nat
 raw : Bool
 results : List (Nat × Option (Option Nat))
 body : Code
inductive Ex where
 | normal
 | exit (id : Nat)
 | goto (l : Nat)
 | ret
 deriving DecidableEq
def LIM : Nat:=4294967296
structure R where
 rs : List V
 env : List V
 st : zb
 base : Nat
 lim : Nat
def vun : V:=.one .un
def R.get (r : R) : X → V
 | .l k => r.rs.getD k vun
 | .s t => r.env.getD t vun
 | .c v => v
def R.put (r : R) : D → V → R
 | .no,_ => { r with rs:=vun :: r.rs }
 | .loc,v => { r with rs:=v :: r.rs }
 | .slot t,v => { r with rs:=vun :: r.rs,env:=r.env.set t v }
def V.cells : V → List C
 | .one c => [c]
 | .agg cs => cs
 | .tup _ => []
mutual
def C.lt (n : Nat) : C → Bool
 | .f _ => true
 | .ap t _ _ => decide (t < n)
 | .ptr id _ _ _ => decide (id < n)
 | .fp _ _ => true
 | .own id _ _ _ => decide (id < n)
 | .map id => decide (id < n)
 | .fn _ a b => C.lts n a && C.lts n b
 | .un => true
def C.lts (n : Nat) : List C → Bool
 | [] => true
 | c :: cs => c.lt n && C.lts n cs
end
mutual
def V.lt (n : Nat) : V → Bool
 | .one c => c.lt n
 | .agg cs => C.lts n cs
 | .tup vs => V.lts n vs
def V.lts (n : Nat) : List V → Bool
 | [] => true
 | v :: vs => v.lt n && V.lts n vs
end
def C.ltss (n : Nat) : List (List C) → Bool
 | [] => true
 | e :: es => C.lts n e && C.ltss n es
def C.ltm (n : Nat) : List (Int × V) → Bool
 | [] => true
 | e :: es => e.2.lt n && C.ltm n es
def Ob.lt (n : Nat) : Ob → Bool
 | .cells _ _ es => C.ltss n es
 | .tok _ _ => true
 | .mp es => C.ltm n es
def Obs.lt (n : Nat) : List Ob → Bool
 | [] => true
 | o :: os => o.lt n && Obs.lt n os
def C.kns : List C → Bool
 | [] => true
 | .un :: _ => false
 | _ :: cs => C.kns cs
def Ob.elem (ver i : Nat) : Ob → Option (List C)
 | .cells ver' _ es => if ver' = ver then es[i]? else none
 | _ => none
def zb.elem (σ : zb) (id ver i : Nat) : Option (List C):=(σ[id]?).bind (Ob.elem ver i)
def zb.cell (σ : zb) (id ver i off : Nat) : Option C:=(σ.elem id ver i).bind (·[off]?)
def zAR (e : List C) (off : Nat) (cs : List C) : Option (List C) :=
 if off + cs.length ≤ e.length then some (e.take off ++ (cs ++ e.drop (off + cs.length))) else none
def upd (ver sz i : Nat) (es : List (List C)) (e : List C) : Ob:=.cells ver sz (es.set i e)
def Ob.write (ver i off : Nat) (cs : List C) : Ob → Option Ob
 | .cells ver' sz es => if ver' = ver then ((es[i]?).bind fun e => zAR e off cs).map (upd ver' sz i es) else none
 | _ => none
def R.setOb (r : R) (id : Nat) (o : Ob) : R:={ r with st:=r.st.set id o }
def R.alloc (r : R) (o : Ob) : R:={ r with st:=r.st ++ [o] }
def R.write (r : R) (id ver i off : Nat) (cs : List C) : Option R :=
 if C.kns cs then ((r.st[id]?).bind (Ob.write ver i off cs)).map (r.setOb id) else none
def zDQ (k : IntKind) (n : Int) : C:=.f (.lit (.int k n))
def zzx (k : IntKind) (n : Int) : V:=.one (.f (.lit (.int k n)))
def zg4 (b : Bool) : V:=.one (.f (.lit (.bool b)))
def vsl (xs : List (List Fz)) : V:=.one (.f (.sl xs))
def vf (x : Fz) : V:=.one (.f x)
def zym (xs : List Fz) : V:=.agg (xs.map C.f)
def vfp (e : List Fz) : V:=.one (.fp e 0)
def zCG (c : C) : V:=.one c
def V.c1 : V → C
 | .one c => c
 | _ => .un
def zDk (op : BinOp) (k : IntKind) (a b : Int) : Option V :=
 match op with
 | .add => some (.one (.f (.lit (.int k (k.wrap (a + b))))))
 | .sub => some (.one (.f (.lit (.int k (k.wrap (a - b))))))
 | .mul => some (.one (.f (.lit (.int k (k.wrap (a * b))))))
 | .quo => if b = 0 then none else some (.one (.f (.lit (.int k (k.wrap (a.tdiv b))))))
 | .rem => if b = 0 then none else some (.one (.f (.lit (.int k (a.tmod b)))))
 | .eql => some (.one (.f (.lit (.bool (decide (a = b))))))
 | .neq => some (.one (.f (.lit (.bool (!decide (a = b))))))
 | .lss => some (.one (.f (.lit (.bool (decide (a < b))))))
 | .leq => some (.one (.f (.lit (.bool (decide (a ≤ b))))))
 | .gtr => some (.one (.f (.lit (.bool (decide (b < a))))))
 | .geq => some (.one (.f (.lit (.bool (decide (b ≤ a))))))
 | .and => some (.one (.f (.lit (.int k (k.wrap (BitVec.ofInt k.bits a &&& BitVec.ofInt k.bits b).toNat)))))
 | .or => some (.one (.f (.lit (.int k (k.wrap (BitVec.ofInt k.bits a ||| BitVec.ofInt k.bits b).toNat)))))
 | .xor => some (.one (.f (.lit (.int k (k.wrap (BitVec.ofInt k.bits a ^^^ BitVec.ofInt k.bits b).toNat)))))
 | _ => none
def zw9 (op : BinOp) (k : IntKind) (a b : Int) : Option V :=
 if 0 ≤ b then
  match op with
  | .shl => some (.one (.f (.lit (.int k (k.wrap (a * 2 ^ (min b.toNat k.bits)))))))
  | .shr => some (.one (.f (.lit (.int k (a.fdiv (2 ^ (min b.toNat k.bits)))))))
  | _ => none
 else none
def zCX (op : BinOp) (a b : Bool) : Option V :=
 match op with
 | .eql => some (.one (.f (.lit (.bool (a == b)))))
 | .neq => some (.one (.f (.lit (.bool (a != b)))))
 | _ => none
def zpi : BinOp → Bool
 | .shl | .shr => true
 | _ => false
def zCM (op : BinOp) : V → V → Option V
 | .one (.f (.lit (.int k a))),.one (.f (.lit (.int k' b))) => if zpi op then zw9 op k a b else if k = k' then zDk op k a b else none
 | _,_ => none
def aun : UnOp → V → Option V
 | .not,.one (.f (.lit (.bool b))) => some (.one (.f (.lit (.bool !b))))
 | .neg,.one (.f (.lit (.int k n))) => some (.one (.f (.lit (.int k (k.wrap (0 - n))))))
 | _,_ => none
def zhs : List C → List C → Option Bool
 | [],[] => some true
 | .f (.lit (.int k a)) :: xs,.f (.lit (.int k' b)) :: ys => if k = k' then (zhs xs ys).map (decide (a = b) && ·) else none
 | _,_ => none
def zCK (neg : Bool) : V → V → Option V
 | .one (.f (.lit (.bool a))),.one (.f (.lit (.bool b))) => some (zg4 (if neg then !(a == b) else a == b))
 | _,_ => none
def zCZ (neg : Bool) : V → Option V
 | .one (.ptr _ _ _ _) => some (zg4 neg)
 | .one (.fp _ _) => some (zg4 neg)
 | .one (.f (.lit (.pointer none))) => some (zg4 (!neg))
 | _ => none
def zBG (neg b : Bool) : V:=zg4 (if neg then !b else b)
def zCL (n : Nat) (neg : Bool) : V → V → Option V
 | .agg xs,.agg ys => if xs.length = n then (zhs xs ys).map (zBG neg) else none
 | _,_ => none
abbrev zL:=Nat → List V → zb → Option (V × zb)
def zvD : C → Option Fz
 | .f x => some x
 | .ap _ _ xs => some (.sl xs)
 | _ => none
def zeA {α : Type} : Option α → Option (List α) → Option (List α)
 | some x,some xs => some (x :: xs)
 | _,_ => none
def zdm : List C → Option (List Fz)
 | [] => some []
 | c :: cs => zeA (zvD c) (zdm cs)
def zbx : List (List C) → Option (List (List Fz))
 | [] => some []
 | c :: cs => zeA (zdm c) (zbx cs)
def Ob.frz (ver lo n : Nat) : Ob → Option (List (List Fz))
 | .cells ver' _ es => if ver' = ver then zbx ((es.drop lo).take n) else none
 | _ => none
def zAP (σ : zb) : V → Option V
 | .one (.own id ver lo n) => ((σ[id]?).bind (Ob.frz ver lo n)).map vsl
 | .one (.fn g [] []) => some (.one (.fn g [] []))
 | .one c => (zvD c).map vf
 | .agg cs => (zdm cs).map zym
 | .tup _ => none
def znY (σ : zb) : List V → Option (List V)
 | [] => some []
 | v :: vs => zeA (zAP σ v) (znY σ vs)
def elems (σ : zb) : V → Option (List (List Fz))
 | .one (.own id ver lo n) => (σ[id]?).bind (Ob.frz ver lo n)
 | .one (.f (.sl xs)) => some xs
 | .one (.ap _ _ xs) => some xs
 | _ => none
def Ob.front (sz k : Nat) : Ob → Option Nat
 | .tok sz' fr => if sz' = sz then fr[k]? else none
 | _ => none
def Ob.setFront (k n : Nat) : Ob → Ob
 | .tok sz fr => .tok sz (fr.set k n)
 | o => o
def Ob.grow (n : Nat) (ys : List (List C)) : Ob → Ob
 | .cells ver sz es => .cells (ver + 1) sz (es.take n ++ ys)
 | o => o
def Ob.isRow (ver sz : Nat) : Ob → Bool
 | .cells ver' sz' _ => decide (ver' = ver) && decide (sz' = sz)
 | _ => false
def zlG (r : R) (d : D) (sz t k : Nat) (xs ys : List (List Fz)) (o : Ob) : Option R :=
 if o.front sz k = some xs.length ∧ xs.length + ys.length ≤ LIM then some ((r.setOb t (o.setFront k (xs.length + ys.length))).put d (.one (.ap t k (xs ++ ys)))) else none
def zrg (r : R) (d : D) (sz id ver n : Nat) (ys : List (List Fz)) (o : Ob) : Option R :=
 if o.isRow ver sz = true ∧ 0 < n + ys.length ∧ n + ys.length ≤ LIM then some ((r.setOb id (o.grow n (ys.map fun e => e.map C.f))).put d (.one (.own id (ver + 1) 0 (n + ys.length)))) else if o.isRow ver sz = true ∧ n + ys.length = 0 then some (r.put d (.one (.own id ver 0 0))) else none
def zpv (sz : Nat) : List (List Fz) → Bool
 | [] => true
 | e :: es => decide (e.length = sz) && zpv sz es
def zAy (r : R) (d : D) (sz : Nat) (ys : List (List Fz)) : V → Option R
 | .one (.ap t k xs) => (r.st[t]?).bind (zlG r d sz t k xs ys)
 | .one (.own id ver 0 n) => (r.st[id]?).bind (zrg r d sz id ver n ys)
 | .one (.f (.lit (.slice none 0 0))) => if ys.length ≤ LIM then some ((r.alloc (.tok sz [ys.length])).put d (.one (.ap r.st.length 0 ys))) else none
 | _ => none
def zhC (r : R) (d : D) (sz id ver lo k : Nat) (ys : List (List Fz)) : Ob → Option R
 | .cells ver' sz' es => if ver' = ver ∧ sz' = sz ∧ lo + k ≤ es.length then
  some ((r.setOb id (.cells ver sz (es.take lo ++ ((ys.take k).map (fun e => e.map C.f) ++ es.drop (lo + k))))).put d (zzx .i64 k)) else none
 | _ => none
def zB4 (r : R) (d : D) (sz : Nat) (ys : List (List Fz)) : V → Option R
 | .one (.own id ver lo n) => if min ys.length n = 0 then none else (r.st[id]?).bind (zhC r d sz id ver lo (min ys.length n) ys)
 | _ => none
def zkD (r : R) : List (Nat × Nat × X) → List C → Option (List C)
 | [],cells => some cells
 | (off,sz,x) :: rest,cells => if (r.get x).cells.length = sz ∧ C.kns (r.get x).cells = true then (zAR cells off (r.get x).cells).bind (zkD r rest) else none
def zlH (r : R) (sz : Nat) : List (Nat × X) → List (List C) → Option (List (List C))
 | [],cells => some cells
 | (i,x) :: rest,cells => if i < cells.length ∧ (r.get x).cells.length = sz ∧ C.kns (r.get x).cells = true then zlH r sz rest (cells.set i (r.get x).cells) else none
def zz5 (sz : Nat) : Ob:=if 4096 ≤ sz then .cells 0 (sz - 4096) [] else .tok sz [0]
def zBD (t sz : Nat) : C:=if 4096 ≤ sz then .own t 0 0 0 else .ap t 0 []
def zee : Nat → List (Nat × Nat) → List C → List C
 | _,[],cs => cs
 | t,j :: js,cs => zee (t + 1) js (cs.set j.1 (zBD t j.2))
def tokens : List (Nat × Nat) → List Ob
 | [] => []
 | j :: js => zz5 j.2 :: tokens js
def R.allocs (r : R) (os : List Ob) : R:={ r with st:=r.st ++ os }
def aal (r : R) (d : D) (zero : List C) (fresh : List (Nat × Nat)) : R :=
 (r.allocs (tokens fresh ++ [.cells 0 zero.length [zee r.st.length fresh zero]])).put d (.one (.ptr (r.st.length + fresh.length) 0 0 0))
def zBB (r : R) (d : D) (fresh : List (Nat × Nat)) (cs : List C) : R:=(r.allocs (tokens fresh)).put d (.agg cs)
def zBb (r : R) (d : D) (xs : List (List Fz)) : R:=r.put d (vsl xs)
def zw8 (r : R) (d : D) (sz : Nat) (xs : List (List Fz)) : R:=(r.alloc (.tok sz [xs.length])).put d (.one (.ap r.st.length 0 xs))
def zt4 (r : R) (d : D) (sz : Nat) : B → List (List C) → Option R
 | .fz,es => (zbx es).map (zBb r d)
 | .tk,es => (zbx es).map (zw8 r d sz)
 | .rw,es => some ((r.alloc (.cells 0 sz es)).put d (.one (.own r.st.length 0 0 es.length)))
def zBP : V → Option V
 | .one (.own _ _ _ n) => some (zzx .i64 n)
 | .one (.f (.sl xs)) => some (zzx .i64 xs.length)
 | .one (.ap _ _ xs) => some (zzx .i64 xs.length)
 | _ => none
def zC2 : V → Option V
 | .one (.f (.lit (.string s))) => some (zzx .i64 s.size)
 | _ => none
def afa (off : Nat) : V → Option V
 | .one (.ptr id ver i o) => some (.one (.ptr id ver i (o + off)))
 | .one (.fp cs o) => some (.one (.fp cs (o + off)))
 | _ => none
def zCk (sz : Nat) (e : List Fz) : Option V:=if e.length = sz then some (vfp e) else none
def zqL (id ver sz lo : Nat) (k : Int) (o : Ob) : Option V:=if o.isRow ver sz then some (.one (.ptr id ver (lo + k.toNat) 0)) else none
def aia (σ : zb) (sz : Nat) : V → V → Option V
 | .one (.own id ver lo n),.one (.f (.lit (.int _ k))) => if 0 ≤ k ∧ k < n then (σ[id]?).bind (zqL id ver sz lo k) else none
 | .one (.f (.sl xs)),.one (.f (.lit (.int _ k))) => if 0 ≤ k then (xs[k.toNat]?).bind (zCk sz) else none
 | .one (.ap _ _ xs),.one (.f (.lit (.int _ k))) => if 0 ≤ k then (xs[k.toNat]?).bind (zCk sz) else none
 | _,_ => none
def zCQ (n sz : Nat) : V → V → Option V
 | .one (.ptr id ver j o),.one (.f (.lit (.int _ k))) => if 0 ≤ k ∧ k < n then some (.one (.ptr id ver j (o + k.toNat * sz))) else none
 | .one (.fp cs o),.one (.f (.lit (.int _ k))) => if 0 ≤ k ∧ k < n then some (.one (.fp cs (o + k.toNat * sz))) else none
 | _,_ => none
def cut {α : Type} (o n : Nat) (e : List α) : Option (List α):=if o + n ≤ e.length then some ((e.drop o).take n) else none
def ald (σ : zb) : Option Nat → V → Option V
 | none,.one (.ptr id ver i o) => (σ.cell id ver i o).map zCG
 | none,.one (.fp cs o) => (cs[o]?).map vf
 | some n,.one (.ptr id ver i o) => ((σ.elem id ver i).bind (cut o n)).map V.agg
 | some n,.one (.fp cs o) => (cut o n cs).map zym
 | _,_ => none
def ast (r : R) (sz : Nat) (cs : List C) : V → Option R
 | .one (.ptr id ver i o) => if cs.length = sz then r.write id ver i o cs else none
 | _ => none
def zDY (r : R) (sz : Nat) (v : V) : Option R:=ast (r.alloc (.tok sz [0])) 1 [.ap r.st.length 0 []] v
def nest (t : Nat) (zero : List C) (j : Nat) (k : Nat) : List C:=zero.set j (.ap t k [])
def zBC (r : R) (d : D) (zero : List C) : Option (Nat × Nat) → V → Option R
 | none,.one (.f (.lit (.int _ k))) => if 0 ≤ k ∧ k ≤ LIM then some ((r.alloc (.cells 0 zero.length (yf k.toNat zero))).put d (.one (.own r.st.length 0 0 k.toNat))) else none
 | some j,.one (.f (.lit (.int _ k))) => if 0 ≤ k ∧ k ≤ LIM then
  some ((r.allocs [.tok j.2 (yf k.toNat 0),.cells 0 zero.length ((yi k.toNat).map (nest r.st.length zero j.1))]).put d (.one (.own (r.st.length + 1) 0 0 k.toNat))) else none
 | _,_ => none
def zB7 (t : Nat) (zero : List C) (j : Nat) (k : Nat) : List C:=zero.set j (.own (t + k) 0 0 0)
def zDS (r : R) (d : D) (zero : List C) (j sz : Nat) : V → Option R
 | .one (.f (.lit (.int _ k))) => if 0 ≤ k ∧ k ≤ LIM then
  some ((r.allocs (yf k.toNat (.cells 0 sz []) ++ [.cells 0 zero.length ((yi k.toNat).map (zB7 r.st.length zero j))])).put d (.one (.own (r.st.length + k.toNat) 0 0 k.toNat))) else none
 | _ => none
def zCr (r : R) (d : D) (sz : Nat) : V → Option R
 | .one (.f (.lit (.int _ k))) => if 0 ≤ k ∧ k ≤ LIM then some ((r.alloc (.tok sz [0])).put d (.one (.ap r.st.length 0 []))) else none
 | _ => none
def zzz : V → Option Nat
 | .one (.f (.lit (.int _ k))) => if 0 ≤ k then some k.toNat else none
 | _ => none
def bound (r : R) (dflt : Nat) : Option X → Option Nat
 | none => some dflt
 | some x => zzz (r.get x)
def zxy (sz : Nat) (xs : List (List Fz)) (lo hi : Nat) : Option V:=if lo ≤ hi ∧ hi ≤ xs.length ∧ zpv sz xs = true then some (vsl ((xs.take hi).drop lo)) else none
def zwh (σ : zb) (sz id ver l n lo hi : Nat) : Option V:=if lo ≤ hi ∧ hi ≤ n ∧ (σ[id]?).any (Ob.isRow ver sz) = true then some (.one (.own id ver (l + lo) (hi - lo))) else none
def zCA (s : ByteArray) (lo hi : Nat) : Option V:=if lo ≤ hi ∧ hi ≤ s.size then some (.one (.f (.lit (.string (s.extract lo hi))))) else none
def two (f : Nat → Nat → Option V) : Option Nat → Option Nat → Option V
 | some a,some b => f a b
 | _,_ => none
def zsF : V → V → Bool
 | .one (.f (.lit (.int k a))),.one (.f (.lit (.int k' b))) => decide (k = k') && decide (a = b)
 | _,_ => false
def zyU (r : R) (hi : Option X) : Option X → Bool
 | none => true
 | some m => match hi with
   | some h => zsF (r.get m) (r.get h)
   | none => false
def zBX (r : R) (sz : Nat) (lo hi : Option X) (mx : Bool) : V → Option V
 | .one (.f (.sl xs)) => two (zxy sz xs) (bound r 0 lo) (bound r xs.length hi)
 | .one (.ap _ _ xs) => two (zxy sz xs) (bound r 0 lo) (bound r xs.length hi)
 | .one (.own id ver l n) => if mx then none else two (zwh r.st sz id ver l n) (bound r 0 lo) (bound r n hi)
 | _ => none
def zDD (r : R) (lo hi : Option X) : V → Option V
 | .one (.f (.lit (.string s))) => two (zCA s) (bound r 0 lo) (bound r s.size hi)
 | _ => none
def zDU : V → Bool
 | .one (.f (.sl _)) => true
 | .one (.ap _ _ _) => true
 | _ => false
def zCI (i : Nat) : V → Option V
 | .tup vs => vs[i]?
 | _ => none
def ztB (off : Nat) : Option Nat → V → Option V
 | none,.agg cs => (cs[off]?).map zCG
 | some n,.agg cs => (cut off n cs).map V.agg
 | _,_ => none
def zDW (n : Nat) : V → V → Option V
 | .agg cs,.one (.f (.lit (.int _ k))) => if 0 ≤ k ∧ k < n then (cs[k.toNat]?).map zCG else none
 | _,_ => none
def single (c : Fz) : List Fz:=[c]
def zDZ (n lo : Nat) : V → Option V
 | .one (.fp cs 0) => if cs.length = n ∧ lo ≤ n then some (vsl ((cs.drop lo).map single)) else none
 | _ => none
def byteOf : List Fz → Option Int
 | [.lit (.int .u8 n)] => some n
 | _ => none
def bytesOf : List (List Fz) → Option (List Int)
 | [] => some []
 | e :: es => zeA (byteOf e) (bytesOf es)
def strOf (ns : List Int) : ByteArray:=⟨(ns.map fun n => UInt8.ofNat n.toNat).toArray⟩
def zDP (ns : List Int) : V:=.one (.f (.lit (.string (strOf ns))))
def zDR (xs : List (List Fz)) : Option V:=(bytesOf xs).map zDP
def zC7 (neg : Bool) : V → V → Option V
 | .one (.f (.lit (.string a))),.one (.f (.lit (.string b))) => some (zg4 (if neg then !(a.toList == b.toList) else a.toList == b.toList))
 | _,_ => none
def zwo (r : R) (d : D) (sz id ver n : Nat) (rows : List (List Fz)) : R:=(r.setOb id (.cells (ver + 1) sz [])).put d (vsl (rows.take n))
def zz7 (r : R) (d : D) (sz id ver n : Nat) : Ob → Option R
 | .cells ver' sz' es => if ver' = ver ∧ sz' = sz then (zbx es).map (zwo r d sz id ver n) else none
 | _ => none
def zD0 (r : R) (d : D) (sz : Nat) : V → Option R
 | .one (.own id ver 0 n) => (r.st[id]?).bind (zz7 r d sz id ver n)
 | _ => none
def Ob.rows (ver sz : Nat) : Ob → Option (List (List Fz))
 | .cells ver' sz' es => if ver' = ver ∧ sz' = sz then zbx es else none
 | _ => none
def zx8 (r : R) (d : D) (sz id ver i o off id2 ver2 n : Nat) (rows : List (List Fz)) : Option R :=
 ((r.setOb id2 (.cells (ver2 + 1) sz [])).write id ver i (o + off) [.f (.sl (rows.take n))]).map fun r => r.put d (.one (.ptr id ver i o))
def zz4 (r : R) (d : D) (off sz id ver i o : Nat) : C → Option R
 | .own id2 ver2 0 n => ((r.st[id2]?).bind (Ob.rows ver2 sz)).bind (zx8 r d sz id ver i o off id2 ver2 n)
 | .f _ => some (r.put d (.one (.ptr id ver i o)))
 | _ => none
def zDm (r : R) (d : D) (off sz : Nat) : V → Option R
 | .one (.ptr id ver i o) => (r.st.cell id ver i (o + off)).bind (zz4 r d off sz id ver i o)
 | _ => none
def zDX (r : R) (d : D) (fs : List Fz) : R:=r.put d (.one (.fp fs 0))
def zCO : V → Option V
 | .one (.ptr id ver i o) => some (.one (.ptr id ver i o))
 | .one (.fp cs o) => some (.one (.fp cs o))
 | .one (.fn f a b) => some (.one (.fn f a b))
 | _ => none
def zyF (a b : V) : V → Option V
 | .one (.f (.lit (.bool t))) => some (if t then a else b)
 | _ => none
def zzJ (k : IntKind) : V → Option V
 | .one (.f (.lit (.int _ n))) => some (zzx k (k.wrap n))
 | _ => none
def zCH (isMax : Bool) : V → V → Option V
 | .one (.f (.lit (.int k a))),.one (.f (.lit (.int k' b))) => if k = k' then some (zzx k (if isMax then max a b else min a b)) else none
 | _,_ => none
def zes (k : Int) : List (Int × V) → Option V
 | [] => none
 | e :: es => if e.1 = k then some e.2 else zes k es
def zdW (k : Int) (v : V) : List (Int × V) → List (Int × V)
 | [] => [(k,v)]
 | e :: es => if e.1 = k then (k,v) :: es else e :: zdW k v es
def Ob.entries : Ob → Option (List (Int × V))
 | .mp es => some es
 | _ => none
def zAW (zero : V) (ok : Bool) : Option V → V
 | some v => if ok then .tup [v,zg4 true] else v
 | none => if ok then .tup [zero,zg4 false] else zero
def alk (σ : zb) (zero : V) (ok : Bool) : V → V → Option V
 | .one (.map id),.one (.f (.lit (.int .i64 k))) => ((σ[id]?).bind Ob.entries).map fun es => zAW zero ok (zes k es)
 | .one (.f (.lit (.map none))),.one (.f (.lit (.int .i64 _))) => some (zAW zero ok none)
 | _,_ => none
def zCx (r : R) (id : Nat) (k : Int) (v : V) (es : List (Int × V)) : R:=r.setOb id (.mp (zdW k v es))
def amu (r : R) (v : V) : V → V → Option R
 | .one (.map id),.one (.f (.lit (.int .i64 k))) => ((r.st[id]?).bind Ob.entries).map (zCx r id k v)
 | _,_ => none
mutual
def C.shift (n : Nat) : C → C
 | .f x => .f x
 | .ap t k xs => .ap (t + n) k xs
 | .ptr id ver i o => .ptr (id + n) ver i o
 | .fp cs o => .fp cs o
 | .own id ver lo m => .own (id + n) ver lo m
 | .map id => .map (id + n)
 | .fn g a b => .fn g (C.shifts n a) (C.shifts n b)
 | .un => .un
def C.shifts (n : Nat) : List C → List C
 | [] => []
 | c :: cs => c.shift n :: C.shifts n cs
end
mutual
def V.shift (n : Nat) : V → V
 | .one c => .one (c.shift n)
 | .agg cs => .agg (C.shifts n cs)
 | .tup vs => .tup (V.shifts n vs)
def V.shifts (n : Nat) : List V → List V
 | [] => []
 | v :: vs => v.shift n :: V.shifts n vs
end
def Ob.shift (n : Nat) : Ob → Ob
 | .cells ver sz es => .cells ver sz (es.map (C.shifts n))
 | .tok sz fr => .tok sz fr
 | .mp es => .mp (es.map fun e => (e.1,e.2.shift n))
def zsL : V → Bool
 | .one (.own _ _ _ _) => true
 | _ => false
mutual
def V.plain : V → Bool
 | .one (.f (.lit _)) => true
 | .one _ => false
 | .agg cs => cs.all fun c => match c with
   | .f (.lit _) => true
   | _ => false
 | .tup vs => V.plains vs
def V.plains : List V → Bool
 | [] => true
 | v :: vs => v.plain && V.plains vs
end
def ztj (r : R) (d : D) (lent : Bool) (x : V × zb) : Option R:=if x.2.length = 0 ∧ (lent = false ∨ x.1.plain = true) then some (r.put d x.1) else none
def zt2 (r : R) (d : D) (x : V × zb) : R:={ r with st:=r.st ++ x.2.map (Ob.shift r.st.length) }.put d (x.1.shift r.st.length)
def ztp (r : R) (d : D) (x : V × zb) : R:={ r with st:=x.2 }.put d x.1
def closed (c : zL) (g : Nat) (aS : List V) : Option (V × zb):=c g aS []
def zlP (call : zL) (r : R) (d : D) (m : Mode) (args : List V) : V → Option R
 | .one (.fn g first caps) =>
   match m with
   | .cl => ((znY r.st (first.map V.one ++ (args ++ caps.map V.one))).bind (closed call g)).bind (ztj r d ((first.map V.one ++ (args ++ caps.map V.one)).any zsL))
   | .ck => if (first.map V.one ++ (args ++ caps.map V.one)).any zsL then none else ((znY r.st (first.map V.one ++ (args ++ caps.map V.one))).bind (closed call g)).map (zt2 r d)
   | .op => (call g (first.map V.one ++ (args ++ caps.map V.one)) r.st).map (ztp r d)
 | _ => none
def R.gets (r : R) : List X → List V
 | [] => []
 | x :: xs => r.get x :: r.gets xs
def anl (r : R) (d : D) (sz : Nat) : B → Option R
 | .tk => some ((r.alloc (.tok sz [0])).put d (.one (.ap r.st.length 0 [])))
 | .rw => some ((r.alloc (.cells 0 sz [])).put d (.one (.own r.st.length 0 0 0)))
 | .fz => some (r.put d (vsl []))
def zaF (call : zL) (r : R) (d : D) : Op → Option R
 | .mv x => some (r.put d (r.get x))
 | .pick c a b => (zyF (r.get a) (r.get b) (r.get c)).map (r.put d)
 | .bin op x y => (zCM op (r.get x) (r.get y)).map (r.put d)
 | .beq neg x y => (zCK neg (r.get x) (r.get y)).map (r.put d)
 | .eqa n neg x y => (zCL n neg (r.get x) (r.get y)).map (r.put d)
 | .un op x => (aun op (r.get x)).map (r.put d)
 | .conv k x => (zzJ k (r.get x)).map (r.put d)
 | .len x => (zBP (r.get x)).map (r.put d)
 | .fa off x => (afa off (r.get x)).map (r.put d)
 | .ia sz x i => (aia r.st sz (r.get x) (r.get i)).map (r.put d)
 | .iaa n sz x i => (zCQ n sz (r.get x) (r.get i)).map (r.put d)
 | .ld sz x => (ald r.st sz (r.get x)).map (r.put d)
 | .st sz x v => (ast r sz (r.get v).cells (r.get x)).map fun r => r.put d vun
 | .al zero fresh => some (aal r d zero fresh)
 | .box sz x => if (r.get x).cells.length = sz ∧ C.kns (r.get x).cells = true then some ((r.alloc (.cells 0 sz [(r.get x).cells])).put d (.one (.ptr r.st.length 0 0 0))) else none
 | .bld zero parts fresh => (zkD r parts (zee r.st.length fresh zero)).map (zBB r d fresh)
 | .bsl b sz zero parts => (zlH r sz parts zero).bind (zt4 r d sz b)
 | .nl b sz => anl r d sz b
 | .app sz s x => (elems r.st (r.get x)).bind fun ys => if zpv sz ys then zAy r d sz ys (r.get s) else none
 | .cpy sz x y => (elems r.st (r.get y)).bind fun ys => if zpv sz ys then zB4 r d sz ys (r.get x) else none
 | .mks zero fresh n => zBC r d zero fresh (r.get n)
 | .mkc sz n => zCr r d sz (r.get n)
 | .slc sz x lo hi mx => if zyU r hi mx = true then (zBX r sz lo hi mx.isSome (r.get x)).map (r.put d) else none
 | .ext x i => (zCI i (r.get x)).map (r.put d)
 | .fld off sz x => (ztB off sz (r.get x)).map (r.put d)
 | .nil x => (zCO (r.get x)).map (r.put d)
 | .mkf f first caps => some (r.put d (.one (.fn f ((r.gets first).map V.c1) ((r.gets caps).map V.c1))))
 | .mkm => some ((r.alloc (.mp [])).put d (.one (.map r.st.length)))
 | .lk zero ok m k => (alk r.st zero ok (r.get m) (r.get k)).map (r.put d)
 | .mu m k v => (amu r (r.get v) (r.get m) (r.get k)).map fun r => r.put d vun
 | .mxn isMax x y => (zCH isMax (r.get x) (r.get y)).map (r.put d)
 | .call m f args => zlP call r d m (r.gets args) (r.get f)
 | .no _ => none
def zlf (call : zL) (r : R) (d : D) (op : Op) (b : Bool) : V → Option R
 | .one (.f (.lit (.bool t))) => if t = b then zaF call r d op else some (r.put d (.tup []))
 | .tup [] => some (r.put d (.tup []))
 | _ => none
def step (call : zL) (r : R) : Oper → Option R
 | ⟨d,op,none⟩ => zaF call r d op
 | ⟨d,op,some (x,b)⟩ => zlf call r d op b (r.get x)
def steps (call : zL) : List Oper → R → Option R
 | [],r => some r
 | o :: os,r => (step call r o).bind (steps call os)
def Value.beq : Value → Value → Bool
 | .int k a,.int k' b => decide (k = k') && decide (a = b)
 | .bool a,.bool b => a == b
 | .string a,.string b => decide (a.data.toList = b.data.toList)
 | _,_ => false
mutual
def Fz.beq : Fz → Fz → Bool
 | .lit v,.lit u => Value.beq v u
 | .sl xs,.sl ys => Fz.beqs xs ys
 | _,_ => false
def Fz.beqR : List Fz → List Fz → Bool
 | [],[] => true
 | x :: xs,y :: ys => x.beq y && Fz.beqR xs ys
 | _,_ => false
def Fz.beqs : List (List Fz) → List (List Fz) → Bool
 | [],[] => true
 | x :: xs,y :: ys => Fz.beqR x y && Fz.beqs xs ys
 | _,_ => false
end
def C.beq : C → C → Bool
 | .f x,.f y => x.beq y
 | .ap t k xs,.ap t' k' ys => decide (t = t') && decide (k = k') && Fz.beqs xs ys
 | .ptr a b c d,.ptr a' b' c' d' => decide (a = a') && decide (b = b') && decide (c = c') && decide (d = d')
 | .fp xs o,.fp ys o' => Fz.beqR xs ys && decide (o = o')
 | .own a b c d,.own a' b' c' d' => decide (a = a') && decide (b = b') && decide (c = c') && decide (d = d')
 | .map a,.map b => decide (a = b)
 | _,_ => false
def C.beqs : List C → List C → Bool
 | [],[] => true
 | x :: xs,y :: ys => x.beq y && C.beqs xs ys
 | _,_ => false
def V.beq : V → V → Bool
 | .one c,.one d => c.beq d
 | .agg cs,.agg ds => C.beqs cs ds
 | _,_ => false
def zqG : zL:=fun _ _ _ => none
def zkU : Option R → Option R → Bool
 | some a,some b => (a.rs.headD vun).beq (b.rs.headD vun)
 | _,_ => false
def zaZ (c : zL) (ops : List Oper) (r : R) (p : Nat × Nat) : Bool:=match steps c (ops.take p.1) r,steps c (ops.take p.2) r,ops[p.1]? with
 | some rj,some rk,some x => zkU (step zqG { rj with st:=rk.st } x) (step zqG rj x)
 | _,_,_ => false
def zrZ (c : zL) (ps : List (Nat × Nat)) (ops : List Oper) (r : R) : Option R:=(steps c ops r).bind fun r1 => if ps.all (zaZ c ops r) then some r1 else none
structure St where
 env : List V
 st : zb
 base : Nat
 lim : Nat
def clr : List Bool → List V → List V
 | [],_ => []
 | true :: bs,v :: vs => v :: clr bs vs
 | false :: bs,_ :: vs => vun :: clr bs vs
 | _,[] => []
def zkk (n : Nat) (env : List V) (σ : zb) : Option zb :=
 if σ.length ≤ n then some σ else if V.lts n env && Obs.lt n (σ.take n) then some (σ.take n) else none
def St.mkSt (s : St) (env : List V) (σ : zb) : St:={ s with env:=env,st:=σ }
def St.clear (s : St) (live : List Bool) (objs : Nat) : Option St :=
 (zkk (s.base + objs) (clr live s.env) s.st).map (s.mkSt (clr live s.env))
def zBr (e : Ex) (s : St) : Ex × St:=(e,s)
def findLabel : Code → Nat → Option Code
 | .seq a b,l => match findLabel a l with
   | some rest => some (.seq rest b)
   | none => findLabel b l
 | .label l',l => if l' = l then some .skip else none
 | _,_ => none
def enter (fn : Fun) (args : List V) (σ : zb) : St:=⟨args ++ yf (fn.nslots - args.length) vun,σ,σ.length,σ.length + fn.keep⟩
def zyH (lim : Nat) (σ : zb) : C → Option Fz
 | .own id ver lo n => if lim ≤ id then ((σ[id]?).bind (Ob.frz ver lo n)).map Fz.sl else none
 | c => zvD c
def zgG (lim : Nat) (σ : zb) : List C → Option (List Fz)
 | [] => some []
 | c :: cs => zeA (zyH lim σ c) (zgG lim σ cs)
def zz8 (lim : Nat) (σ : zb) : V → Option V
 | .one (.own id ver lo n) => if lim ≤ id then ((σ[id]?).bind (Ob.frz ver lo n)).map vsl else none
 | .one (.ap _ _ xs) => some (vsl xs)
 | .agg cs => (zgG lim σ cs).map zym
 | v => some v
def zrF (σ : zb) (env : List V) : Nat × Option (Option Nat) → Option V
 | (t,none) => some (env.getD t vun)
 | (t,some sz) => ald σ sz (env.getD t vun)
def zxw (raw : Bool) (lim : Nat) (σ : zb) (v : V) : Option V:=if raw then some v else zz8 lim σ v
def outs (raw : Bool) (lim : Nat) (σ : zb) (env : List V) : List (Nat × Option (Option Nat)) → Option (List V)
 | [] => some []
 | t :: ts => zeA ((zrF σ env t).bind (zxw raw lim σ)) (outs raw lim σ env ts)
def zAd : List V → V
 | [v] => v
 | vs => .tup vs
def zkd (lim : Nat) (σ : zb) (vs : List V) : Option (V × zb):=(zkk lim vs σ).map fun σ' => (zAd vs,σ')
def leave (raw : Bool) (res : List (Nat × Option (Option Nat))) : Ex × St → Option (V × zb)
 | (.normal,s) => (outs raw s.lim s.st s.env res).bind (zkd s.lim s.st)
 | (.ret,s) => (outs raw s.lim s.st s.env res).bind (zkd s.lim s.st)
 | _ => none
inductive Entry where
 | fn (f : Fun)
 | ext (f : List V → zb → Option (V × zb))
def zdJ (T : Nat → Option Entry) (E : Code → St → Option (Ex × St)) : zL:=fun f args σ =>
 match T f with
 | some (.fn fn) => if args.length = fn.np then (E fn.body (enter fn args σ)).bind (leave fn.raw fn.results) else none
 | some (.ext g) => g args σ
 | none => none
def zqm (E : St → Option (Ex × St)) : Ex × St → Option (Ex × St)
 | (.normal,s) => E s
 | (.exit i,s) => some (.exit i,s)
 | (.goto i,s) => some (.goto i,s)
 | (.ret,s) => some (.ret,s)
def zpR (A B : St → Option (Ex × St)) (s : St) : V → Option (Ex × St)
 | .one (.f (.lit (.bool t))) => if t then A s else B s
 | _ => none
def zqu (id : Nat) : Ex × St → Ex × St
 | (.exit id',s) => if id' = id then (.normal,s) else (.exit id',s)
 | r => r
def zm5 (E : St → Option (Ex × St)) (live : List Bool) (objs : Nat) : Ex × St → Option (Ex × St)
 | (.normal,s) => (s.clear live objs).bind E
 | (.exit i,s) => some (.exit i,s)
 | (.goto i,s) => some (.goto i,s)
 | (.ret,s) => some (.ret,s)
def scK (E : Code → St → Option (Ex × St)) (body : Code) : Ex × St → Option (Ex × St)
 | (.goto l,s) => match findLabel body l with
   | some rest => E (.sc body rest) s
   | none => some (.goto l,s)
 | r => some r
def zv7 (base lim : Nat) (r : R) : Ex × St:=(.normal,⟨r.env,r.st,base,lim⟩)
def zfB (off : Nat) (sz : Option Nat) (row : Nat) : List (Int × V) → List (Int × V) → Option (List (Int × V))
 | [],ds => some ds
 | e :: es,ds => if e.2.cells.length = row ∧ C.kns e.2.cells = true then (ztB off sz e.2).bind fun v => zfB off sz row es (zdW e.1 v ds) else none
def zto (sp : Spec) (s : St) (σ : zb) : V → V → Option St
 | .one (.map id),.one (.map id') => if id = id' then none else
  ((σ[id]?).bind Ob.entries).bind fun es => ((σ[id']?).bind Ob.entries).bind fun ds => (zfB sp.off sp.sz sp.row es ds).map fun ds' => s.mkSt s.env (σ.set id' (.mp ds'))
 | _,_ => none
def zrn (sp : Spec) (s : St) : Option St:=(steps zqG sp.pre ⟨[],s.env,s.st,s.base,s.lim⟩).bind fun r => zto sp (s.mkSt r.env r.st) r.st (r.get sp.m) (r.env.getD sp.dst vun)
def zG (T : Nat → Option Entry) : Nat → Code → St → Option (Ex × St)
 | 0,_,_ => none
 | n + 1,c,s =>
   match c with
   | .skip => some (.normal,s)
   | .reg ops => (steps (zdJ T (zG T n)) ops ⟨[],s.env,s.st,s.base,s.lim⟩).map (zv7 s.base s.lim)
   | .regd ps ops => (zrZ (zdJ T (zG T n)) ps ops ⟨[],s.env,s.st,s.base,s.lim⟩).map (zv7 s.base s.lim)
   | .spec sp => (zrn sp s).map (zBr .normal)
   | .seq a b => (zG T n a s).bind (zqm (zG T n b))
   | .cond x a b => zpR (zG T n a) (zG T n b) s ((R.mk [] s.env s.st s.base s.lim).get x)
   | .block id body => (zG T n body s).map (zqu id)
   | .loop live objs body => (zG T n body s).bind (zm5 (zG T n (.loop live objs body)) live objs)
   | .exit id live objs => (s.clear live objs).map (zBr (.exit id))
   | .scope body => zG T n (.sc body body) s
   | .sc body cur => (zG T n cur s).bind (scK (zG T n) body)
   | .label _ => some (.normal,s)
   | .goto l live objs => (s.clear live objs).map (zBr (.goto l))
   | .ret live => some (.ret,s.mkSt (clr live s.env) s.st)
def Le {α : Type} (a b : Option α) : Prop:=∀ r,a = some r → b = some r
theorem Le.refl {α : Type} (a : Option α) : Le a a:=fun _ h => h
theorem Le.bind {α β : Type} {a b : Option α} {K d : α → Option β} (h : Le a b) (g : ∀ x,Le (K x) (d x)) : Le (a.bind K) (b.bind d):=by
 intro r c;rw [ya] at c ⊢;obtain ⟨x,f,e⟩:=c;exact ⟨x,h x f,g x r e⟩
theorem Le.map {α β : Type} {a b : Option α} (h : Le a b) (f : α → β) : Le (a.map f) (b.map f):=by
 intro r c;rw [yb] at c ⊢;obtain ⟨x,e,d⟩:=c;exact ⟨x,h x e,d⟩
def LeC (c c' : zL) : Prop:=∀ f a σ,Le (c f a σ) (c' f a σ)
theorem zvt {c a : zL} (h : LeC c a) (r : R) (d : D) (m : Mode) (aS : List V) (v : V) : Le (zlP c r d m aS v) (zlP a r d m aS v):=by
 unfold zlP;split
 ·cases m
  ·exact ((Le.refl _).bind fun aS => h _ _ _).bind fun _ => Le.refl _
  ·dsimp only
   split
   ·exact Le.refl _
   ·exact ((Le.refl _).bind fun aS => h _ _ _).map _
  ·exact (h _ _ _).map _
 ·exact Le.refl _
theorem znj {c a : zL} (h : LeC c a) (r : R) (d : D) (o : Op) : Le (zaF c r d o) (zaF a r d o):=by
 cases o
 case call m f args => exact zvt h r d m _ _
 all_goals exact Le.refl _
theorem zjJ {c a : zL} (h : LeC c a) (r : R) (o : Oper) : Le (step c r o) (step a r o):=by
 obtain ⟨d,op,g⟩:=o
 cases g with
 | none => exact znj h r d op
 | some g =>
   obtain ⟨x,b⟩:=g;simp only [step];generalize r.get x = v;unfold zlf;split
   ·split
    ·exact znj h r d op
    ·exact Le.refl _
   ·exact Le.refl _
   ·exact Le.refl _
theorem zca {c a : zL} (h : LeC c a) : ∀ (os : List Oper) (r : R),Le (steps c os r) (steps a os r)
 | [],_ => Le.refl _
 | o :: os,r => (zjJ h r o).bind fun x => zca h os x
theorem zgs {c b : zL} (h : LeC c b) (ops : List Oper) (r : R) (p : Nat × Nat) (a : zaZ c ops r p = true) : zaZ b ops r p = true:=by
 unfold zaZ at a ⊢;split at a
 ·rename_i i g x f d e
  rw [zca h _ _ _ f,zca h _ _ _ d,e];exact a
 ·cases a
theorem zrk {c d : zL} (h : LeC c d) (ps : List (Nat × Nat)) (ops : List Oper) (r : R) : Le (zrZ c ps ops r) (zrZ d ps ops r):=by
 intro r1 b;unfold zrZ at b ⊢;rw [ya] at b ⊢;obtain ⟨g,e,a⟩:=b;refine ⟨g,zca h _ _ _ e,?_⟩;split at a
 ·rename_i i
  rw [if_pos (yc.2 fun p f => zgs h _ _ _ (yc.1 i p f))];exact a
 ·cases a
theorem zh9 {T : Nat → Option Entry} {E b : Code → St → Option (Ex × St)} (h : ∀ c s,Le (E c s) (b c s)) : LeC (zdJ T E) (zdJ T b):=by
 intro f a σ;unfold zdJ;split
 ·split
  ·exact (h _ _).bind fun _ => Le.refl _
  ·exact Le.refl _
 ·exact Le.refl _
 ·exact Le.refl _
theorem zrU {E a : St → Option (Ex × St)} (h : ∀ s,Le (E s) (a s)) (x : Ex × St) : Le (zqm E x) (zqm a x):=by
 obtain ⟨e,s⟩:=x
 cases e <;> first | exact h s | exact Le.refl _
theorem zoT {E b : St → Option (Ex × St)} (h : ∀ s,Le (E s) (b s)) (c : List Bool) (a : Nat) (x : Ex × St) : Le (zm5 E c a x) (zm5 b c a x):=by
 obtain ⟨e,s⟩:=x
 cases e <;> first | exact (Le.refl _).bind h | exact Le.refl _
theorem zva {A a B b : St → Option (Ex × St)} (h : ∀ s,Le (A s) (a s)) (c : ∀ s,Le (B s) (b s)) (s : St) (v : V) : Le (zpR A B s v) (zpR a b s v):=by
 unfold zpR;split
 ·split
  ·exact h s
  ·exact c s
 ·exact Le.refl _
theorem ztq {E a : Code → St → Option (Ex × St)} (h : ∀ c s,Le (E c s) (a c s)) (body : Code) (x : Ex × St) : Le (scK E body x) (scK a body x):=by
 obtain ⟨e,s⟩:=x;cases e <;> simp only [scK]
 case goto l =>
  split
  ·exact h _ _
  ·exact Le.refl _
 all_goals exact Le.refl _
theorem zoc (T : Nat → Option Entry) : ∀ (n : Nat) (c : Code) (s : St),Le (zG T n c s) (zG T (n + 1) c s)
 | 0,_,_ => fun r h => by simp [zG] at h
 | n + 1,c,s => by
   have d:=zoc T n;cases c <;> simp only [zG]
   case reg ops => exact (zca (zh9 d) ops _).map _
   case regd ps ops => exact (zrk (zh9 d) ps ops _).map _
   case seq a b => exact (d a s).bind (zrU (d b))
   case cond x a b => exact zva (d a) (d b) s _
   case block id body => exact (d body s).map _
   case loop lv ob body => exact (d body s).bind (zoT (d _) lv ob)
   case scope body => exact d _ _
   case sc body cur => exact (d cur s).bind (ztq d body)
   all_goals exact Le.refl _
theorem zgR (T : Nat → Option Entry) {n m : Nat} (a : n ≤ m) (c : Code) (s : St) : Le (zG T n c s) (zG T m c s):=by
 induction a with
 | refl => exact Le.refl _
 | step _ ih => exact fun r h => zoc T _ _ _ r (ih r h)
open Classical in
noncomputable def exec (T : Nat → Option Entry) (c : Code) (s : St) : Option (Ex × St) :=
 if h : ∃ r n,zG T n c s = some r then some h.choose else none
theorem zbR {T : Nat → Option Entry} {c : Code} {s : St} {r : Ex × St} : exec T c s = some r ↔ ∃ n,zG T n c s = some r:=by
 unfold exec;constructor
 ·intro h
  split at h
  ·rename_i a
   injection h with h;subst h;exact a.choose_spec
  ·cases h
 ·rintro ⟨n,d⟩
  have a : ∃ r n,zG T n c s = some r:=⟨r,n,d⟩;rw [dif_pos a];obtain ⟨m,hm⟩:=a.choose_spec;have e:=zgR T (yd n m) _ _ _ d;have b:=zgR T (ye n m) _ _ _ hm;rw [e] at b;exact b.symm
noncomputable def call (T : Nat → Option Entry) : zL:=zdJ T (exec T)
theorem zzc {α : Type} {a b : Option α} (h : ∀ r,a = some r ↔ b = some r) : a = b:=by
 cases a with
 | none => cases b with
   | none => rfl
   | some y => exact ((h y).2 rfl)
 | some x => exact ((h x).1 rfl).symm
theorem zp5 {T : Nat → Option Entry} {f : Nat} {a : List V} {σ : zb} {r : V × zb} (h : call T f a σ = some r) : ∃ n,zdJ T (zG T n) f a σ = some r:=by
 unfold call zdJ at h;unfold zdJ;split at h
 ·split at h
  ·rename_i b
   simp only [if_pos b,ya] at h ⊢;obtain ⟨x,d,e⟩:=h;obtain ⟨n,c⟩:=zbR.1 d;exact ⟨n,x,c,e⟩
  ·cases h
 ·exact ⟨0,h⟩
 ·cases h
theorem zgM (T : Nat → Option Entry) {n m : Nat} (h : n ≤ m) : LeC (zdJ T (zG T n)) (zdJ T (zG T m)):=zh9 fun c s => zgR T h c s
theorem zlc (T : Nat → Option Entry) (n : Nat) : LeC (zdJ T (zG T n)) (call T):=zh9 fun _ _ _ a => zbR.2 ⟨n,a⟩
theorem zwg {T : Nat → Option Entry} {r : R} {d : D} {m : Mode} {aS : List V} {v : V} {x : R} (a : zlP (call T) r d m aS v = some x) : ∃ n,zlP (zdJ T (zG T n)) r d m aS v = some x:=by
 unfold zlP at a ⊢;split at a
 ·cases m
  ·simp only [ya] at a ⊢
   obtain ⟨y,⟨aS,g,c⟩,e⟩:=a;obtain ⟨n,b⟩:=zp5 c;exact ⟨n,y,⟨aS,g,b⟩,e⟩
  ·dsimp only at a ⊢
   split at a
   ·cases a
   ·rename_i f
    simp only [if_neg f,yb,ya] at a ⊢;obtain ⟨y,⟨aS,g,c⟩,e⟩:=a;obtain ⟨n,b⟩:=zp5 c;exact ⟨n,y,⟨aS,g,b⟩,e⟩
  ·simp only [yb] at a ⊢
   obtain ⟨y,c,e⟩:=a;obtain ⟨n,b⟩:=zp5 c;exact ⟨n,y,b,e⟩
 ·cases a
theorem zoN {T : Nat → Option Entry} {r : R} {d : D} {o : Op} {x : R} (a : zaF (call T) r d o = some x) : ∃ n,zaF (zdJ T (zG T n)) r d o = some x:=by
 cases o
 case call m f args => exact zwg a
 all_goals exact ⟨0,a⟩
theorem zzA {T : Nat → Option Entry} {r : R} {o : Oper} {x : R} (a : step (call T) r o = some x) : ∃ n,step (zdJ T (zG T n)) r o = some x:=by
 obtain ⟨d,op,g⟩:=o
 cases g with
 | none => exact zoN a
 | some g =>
   obtain ⟨y,b⟩:=g;simp only [step] at a ⊢;generalize r.get y = v at a ⊢;unfold zlf at a ⊢;split at a
   ·split at a
    ·rename_i h
     obtain ⟨n,c⟩:=zoN a;exact ⟨n,by rw [if_pos h]; exact c⟩
    ·rename_i h
     exact ⟨0,by rw [if_neg h]; exact a⟩
   ·exact ⟨0,a⟩
   ·cases a
theorem zhX {T : Nat → Option Entry} : ∀ (os : List Oper) {r x : R},steps (call T) os r = some x → ∃ n,steps (zdJ T (zG T n)) os r = some x
 | [],_,_,hs => ⟨0,hs⟩
 | o :: os,r,x,hs => by
   simp only [steps,ya] at hs ⊢;obtain ⟨r1,c,a⟩:=hs;obtain ⟨n,b⟩:=zzA c;obtain ⟨m,hm⟩:=zhX os a;exact ⟨max n m,r1,zjJ (zgM T (yd n m)) _ _ _ b,zca (zgM T (ye n m)) os _ _ hm⟩
theorem zyK {T : Nat → Option Entry} (ps : List (Nat × Nat)) (os : List Oper) {r x : R} (i : zrZ (call T) ps os r = some x) : ∃ n,zrZ (zdJ T (zG T n)) ps os r = some x:=by
 unfold zrZ at i;rw [ya] at i;obtain ⟨u,k,c⟩:=i;split at c
 ·rename_i d
  injection c with c;subst c;obtain ⟨n,l⟩:=zhX os k
  have e : ∀ ps : List (Nat × Nat),ps.all (zaZ (call T) os r) = true → ∃ m,ps.all (zaZ (zdJ T (zG T m)) os r) = true:=by
   intro ps
   induction ps with
   | nil => exact fun _ => ⟨0,rfl⟩
   | cons p ps ih =>
     intro d;simp only [yh,yg] at d;obtain ⟨m,hm⟩:=ih d.2;have f:=d.1;unfold zaZ at f;split at f
     ·rename_i v t x s q o
      obtain ⟨a,g⟩:=zhX _ s;obtain ⟨b,h⟩:=zhX _ q;refine ⟨max m (max a b),?_⟩;simp only [yh,yg];refine ⟨?_,yc.2 fun p j => zgs (zgM T (yd m _)) _ _ _ (yc.1 hm p j)⟩;unfold zaZ;rw [zca (zgM T (by omega : a ≤ max m (max a b))) _ _ _ g,zca (zgM T (by omega : b ≤ max m (max a b))) _ _ _ h,o];exact f
     ·cases f
  obtain ⟨m,hm⟩:=e ps d;refine ⟨max n m,?_⟩;unfold zrZ;rw [zca (zgM T (yd n m)) _ _ _ l];simp only [Option.bind_some];rw [if_pos (yc.2 fun p j => zgs (zgM T (ye n m)) _ _ _ (yc.1 hm p j))]
 ·cases c
section eqs
variable (T : Nat → Option Entry) (s : St)
theorem zdB {c : Code} {F : Nat → Option (Ex × St)} {L : Option (Ex × St)} (b : ∀ n,zG T (n + 1) c s = F n) (d : ∀ r,L = some r ↔ ∃ n,F n = some r) : exec T c s = L:=by
 refine zzc fun r => ?_;rw [zbR,d];constructor
 ·rintro ⟨n,a⟩
  cases n with
  | zero => simp [zG] at a
  | succ n => exact ⟨n,by rw [← b]; exact a⟩
 ·rintro ⟨n,a⟩
  exact ⟨n + 1,by rw [b]; exact a⟩
theorem zph {β : Type} {c : Code} {G : Nat → Ex × St → Option β} {K : Ex × St → Option β} (g : ∀ x n m,n ≤ m → Le (G n x) (G m x)) (b : ∀ x r,K x = some r ↔ ∃ n,G n x = some r) (r : β) :
  (exec T c s).bind K = some r ↔ ∃ n,(zG T n c s).bind (G n) = some r:=by
 simp only [ya];constructor
 ·rintro ⟨x,a,f⟩
  obtain ⟨n,e⟩:=zbR.1 a;obtain ⟨m,hm⟩:=(b _ _).1 f;exact ⟨max n m,x,zgR T (yd n m) _ _ _ e,g _ _ _ (ye n m) _ hm⟩
 ·rintro ⟨n,x,a,d⟩
  exact ⟨x,zbR.2 ⟨n,a⟩,(b _ _).2 ⟨n,d⟩⟩
theorem zcy {α : Type} {L : Option α} (r : α) : L = some r ↔ ∃ _n : Nat,L = some r:=⟨fun h => ⟨0,h⟩,fun ⟨_,h⟩ => h⟩
theorem zfd : exec T .skip s = some (.normal,s):=zdB T s (fun _ => by rw [zG]) zcy
theorem zos (l : Nat) : exec T (.label l) s = some (.normal,s):=zdB T s (fun _ => by rw [zG]) zcy
theorem zwJ (l : Nat) (b : List Bool) (a : Nat) : exec T (.goto l b a) s = (s.clear b a).map (zBr (.goto l)):=zdB T s (fun _ => by rw [zG]) zcy
theorem zxs (l : Nat) (b : List Bool) (a : Nat) : exec T (.exit l b a) s = (s.clear b a).map (zBr (.exit l)):=zdB T s (fun _ => by rw [zG]) zcy
theorem zyB (a : List Bool) : exec T (.ret a) s = some (.ret,s.mkSt (clr a s.env) s.st):=zdB T s (fun _ => by rw [zG]) zcy
theorem zzo (ops : List Oper) : exec T (.reg ops) s = (steps (call T) ops ⟨[],s.env,s.st,s.base,s.lim⟩).map (zv7 s.base s.lim):=by
 refine zdB T s (fun n => by rw [zG]) fun r => ?_;simp only [yb];constructor
 ·rintro ⟨x,a,e⟩
  obtain ⟨n,b⟩:=zhX ops a;exact ⟨n,x,b,e⟩
 ·rintro ⟨n,x,a,e⟩
  exact ⟨x,zca (zlc T n) ops _ _ a,e⟩
theorem zjW (ps : List (Nat × Nat)) (ops : List Oper) : exec T (.regd ps ops) s = (zrZ (call T) ps ops ⟨[],s.env,s.st,s.base,s.lim⟩).map (zv7 s.base s.lim):=by
 refine zdB T s (fun n => by rw [zG]) fun r => ?_;simp only [yb];constructor
 ·rintro ⟨x,a,e⟩
  obtain ⟨n,b⟩:=zyK ps ops a;exact ⟨n,x,b,e⟩
 ·rintro ⟨n,x,a,e⟩
  exact ⟨x,zrk (zlc T n) ps ops _ _ a,e⟩
theorem zxb (sp : Spec) : exec T (.spec sp) s = (zrn sp s).map (zBr .normal):=zdB T s (fun _ => by rw [zG]) zcy
theorem zdv (a b : Code) : exec T (.seq a b) s = (exec T a s).bind (zqm (exec T b)):=by
 refine zdB T s (fun n => by rw [zG]) fun r => zph T s ?_ ?_ r
 ·exact fun x n m c => zrU (fun s => zgR T c b s) x
 ·rintro ⟨e,d⟩ r
  cases e <;> first | exact zbR | exact zcy r
theorem znb (x : X) (a b : Code) : exec T (.cond x a b) s = zpR (exec T a) (exec T b) s ((R.mk [] s.env s.st s.base s.lim).get x):=by
 refine zdB T s (fun n => by rw [zG]) fun r => ?_;generalize (R.mk [] s.env s.st s.base s.lim).get x = v;unfold zpR;split
 ·rename_i t
  cases t <;> exact zbR
 ·exact zcy r
theorem zof (id : Nat) (body : Code) : exec T (.block id body) s = (exec T body s).map (zqu id):=by
 refine zdB T s (fun n => by rw [zG]) fun r => ?_;simp only [yb];constructor
 ·rintro ⟨x,a,e⟩
  obtain ⟨n,b⟩:=zbR.1 a;exact ⟨n,x,b,e⟩
 ·rintro ⟨n,x,a,e⟩
  exact ⟨x,zbR.2 ⟨n,a⟩,e⟩
theorem zna (live : List Bool) (a : Nat) (body : Code) : exec T (.loop live a body) s = (exec T body s).bind (zm5 (exec T (.loop live a body)) live a):=by
 refine zdB T s (fun n => by rw [zG]) fun r => zph T s ?_ ?_ r
 ·exact fun x n m c => zoT (fun s => zgR T c _ s) live a x
 ·rintro ⟨e,f⟩ r
  cases e
  case normal =>
   simp only [zm5,ya];constructor
   ·rintro ⟨x,b,h⟩
    obtain ⟨n,d⟩:=zbR.1 h;exact ⟨n,x,b,d⟩
   ·rintro ⟨n,x,b,h⟩
    exact ⟨x,b,zbR.2 ⟨n,h⟩⟩
  all_goals exact zcy r
theorem zkt (body : Code) : exec T (.scope body) s = exec T (.sc body body) s :=
 zdB T s (fun n => by rw [zG]) fun _ => zbR
theorem zfb (body cur : Code) : exec T (.sc body cur) s = (exec T cur s).bind (scK (exec T) body):=by
 refine zdB T s (fun n => by rw [zG]) fun r => zph T s ?_ ?_ r
 ·exact fun x n m a => ztq (fun c s => zgR T a c s) body x
 ·rintro ⟨e,b⟩ r
  cases e <;> simp only [scK]
  case goto l =>
   split
   ·exact zbR
   ·exact zcy r
  all_goals exact zcy r
end eqs
theorem zd {T : Nat → Option Entry} {f : Nat} {fn : Fun} (h : T f = some (.fn fn)) (args : List V) (σ : zb) : call T f args σ = if args.length = fn.np then (exec T fn.body (enter fn args σ)).bind (leave fn.raw fn.results) else none:=by
 simp only [call,zdJ,h]
end Go.A
