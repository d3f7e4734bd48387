/- A part of the proof of AliasTells. Conditions: none. -/
import GoSem.Core.View
import Derived.Below
import Derived.Laws.CopyRow
import Derived.Deep.Draws
set_option linter.all false
open Option renaming bind_eq_some_iff → ya,map_eq_some_iff → yd
open Array renaming getElem?_eq_some_iff → yb
open List renaming getElem?_append_left → yc,getElem?_set_ne → ye,all_eq_true → yf,replicate → yj,all_cons → yn,map_id → yp,range → yq
open Nat renaming le_max_left → yg,le_max_right → yh,lt_of_lt_of_le → yi,le_refl → yk,le_trans → yl,add_mul → yo
open Bool renaming and_eq_true → ym
namespace Go.A
inductive Fz where
 | lit (v : Value)
 | sl (xs : List (List Fz))
 deriving Inhabited
inductive C where
 | f (x : Fz)
 | ap (tok k : Nat) (xs : List (List Fz))
 | ptr (id ver i off : Nat)
 | fp (cs : List Fz) (off : Nat)
 | own (id ver lo n : Nat)
 | map (id : Nat)
 | fn (f : Nat) (first caps : List C)
 | un
 deriving Inhabited
inductive V where
 | one (c : C)
 | agg (cs : List C)
 | tup (vs : List V)
 deriving Inhabited
inductive Ob where
 | cells (ver sz : Nat) (es : List (List C))
 | tok (sz : Nat) (fr : List Nat)
 | mp (es : List (Int × V))
 deriving Inhabited
abbrev zd:=List Ob
inductive X where
 | l (d : Nat)
 | s (t : Nat)
 | c (v : V)
inductive Mode where
 | cl
 | ck
 | op
inductive B where
 | fz
 | tk
 | rw
inductive Op where
 | mv (x : X)
 | pick (c a b : X)
 | bin (op : BinOp) (x y : X)
 | eqa (n : Nat) (neg : Bool) (x y : X)
 | beq (neg : Bool) (x y : X)
 | un (op : UnOp) (x : X)
 | conv (k : IntKind) (x : X)
 | len (x : X)
 | fa (off : Nat) (x : X)
 | ia (sz : Nat) (x i : X)
 | iaa (n sz : Nat) (x i : X)
 | ld (sz : Option Nat) (x : X)
 | st (sz : Nat) (x v : X)
 | al (zero : List C) (fresh : List (Nat × Nat))
 | box (sz : Nat) (x : X)
 | bld (zero : List C) (parts : List (Nat × Nat × X)) (fresh : List (Nat × Nat))
 | bsl (b : B) (sz : Nat) (zero : List (List C)) (parts : List (Nat × X))
 | nl (b : B) (sz : Nat)
 | app (sz : Nat) (s x : X)
 | cpy (sz : Nat) (x y : X)
 | mks (zero : List C) (fresh : Option (Nat × Nat)) (n : X)
 | mkc (sz : Nat) (n : X)
 | slc (sz : Nat) (x : X) (lo hi mx : Option X)
 | ext (x : X) (i : Nat)
 | fld (off : Nat) (sz : Option Nat) (x : X)
 | nil (x : X)
 | mkf (f : Nat) (first caps : List X)
 | mkm
 | lk (zero : V) (ok : Bool) (m k : X)
 | mu (m k v : X)
 | mxn (isMax : Bool) (x y : X)
 | call (m : Mode) (f : X) (args : List X)
 | no (why : String)
inductive D where
 | no
 | loc
 | slot (t : Nat)
structure Oper where
 dst : D
 op : Op
 guard : Option (X × Bool)
structure Spec where
 pre : List Oper
 m : X
 dst : Nat
 off : Nat
 sz : Option Nat
 row : Nat
 ns : List Nat
inductive Code where
 | skip
 | reg (ops : List Oper)
 | regd (ps : List (Nat × Nat)) (ops : List Oper)
 | spec (sp : Spec)
 | seq (a b : Code)
 | cond (c : X) (thn els : Code)
 | block (id : Nat) (body : Code)
 | loop (live : List Bool) (objs : Nat) (body : Code)
 | exit (id : Nat) (live : List Bool) (objs : Nat)
 | scope (body : Code)
 | sc (body cur : Code)
 | label (l : Nat)
 | goto (l : Nat) (live : List Bool) (objs : Nat)
 | ret (live : List Bool)
structure Fun where
 np : Nat
 nslots : Nat
 keep : Nat
 raw : Bool
 results : List (Nat × Option (Option Nat))
 body : Code
inductive Ex where
 | normal
 | exit (id : Nat)
 | goto (l : Nat)
 | ret
 deriving DecidableEq
def LIM : Nat:=4294967296
structure R where
 rs : List V
 env : List V
 st : zd
 base : Nat
 lim : Nat
def vun : V:=.one .un
def R.get (r : R) : X → V
 | .l k => r.rs.getD k vun
 | .s t => r.env.getD t vun
 | .c v => v
def R.put (r : R) : D → V → R
 | .no,_ => { r with rs:=vun :: r.rs }
 | .loc,v => { r with rs:=v :: r.rs }
 | .slot t,v => { r with rs:=vun :: r.rs,env:=r.env.set t v }
def V.cells : V → List C
 | .one c => [c]
 | .agg cs => cs
 | .tup _ => []
mutual
def C.lt (n : Nat) : C → Bool
 | .f _ => true
 | .ap t _ _ => decide (t < n)
 | .ptr id _ _ _ => decide (id < n)
 | .fp _ _ => true
 | .own id _ _ _ => decide (id < n)
 | .map id => decide (id < n)
 | .fn _ a b => C.lts n a && C.lts n b
 | .un => true
def C.lts (n : Nat) : List C → Bool
 | [] => true
 | c :: cs => c.lt n && C.lts n cs
end
mutual
def V.lt (n : Nat) : V → Bool
 | .one c => c.lt n
 | .agg cs => C.lts n cs
 | .tup vs => V.lts n vs
def V.lts (n : Nat) : List V → Bool
 | [] => true
 | v :: vs => v.lt n && V.lts n vs
end
def C.ltss (n : Nat) : List (List C) → Bool
 | [] => true
 | e :: es => C.lts n e && C.ltss n es
def C.ltm (n : Nat) : List (Int × V) → Bool
 | [] => true
 | e :: es => e.2.lt n && C.ltm n es
def Ob.lt (n : Nat) : Ob → Bool
 | .cells _ _ es => C.ltss n es
 | .tok _ _ => true
 | .mp es => C.ltm n es
def Obs.lt (n : Nat) : List Ob → Bool
 | [] => true
 | o :: os => o.lt n && Obs.lt n os
def C.kns : List C → Bool
 | [] => true
 | .un :: _ => false
 | _ :: cs => C.kns cs
def Ob.elem (ver i : Nat) : Ob → Option (List C)
 | .cells ver' _ es => if ver' = ver then es[i]? else none
 | _ => none
def zd.elem (σ : zd) (id ver i : Nat) : Option (List C):=(σ[id]?).bind (Ob.elem ver i)
def zd.cell (σ : zd) (id ver i off : Nat) : Option C:=(σ.elem id ver i).bind (·[off]?)
def zHw (e : List C) (off : Nat) (cs : List C) : Option (List C) :=
 if off + cs.length ≤ e.length then some (e.take off ++ (cs ++ e.drop (off + cs.length))) else none
def upd (ver sz i : Nat) (es : List (List C)) (e : List C) : Ob:=.cells ver sz (es.set i e)
def Ob.write (ver i off : Nat) (cs : List C) : Ob → Option Ob
 | .cells ver' sz es => if ver' = ver then ((es[i]?).bind fun e => zHw e off cs).map (upd ver' sz i es) else none
 | _ => none
def R.setOb (r : R) (id : Nat) (o : Ob) : R:={ r with st:=r.st.set id o }
def R.alloc (r : R) (o : Ob) : R:={ r with st:=r.st ++ [o] }
def R.write (r : R) (id ver i off : Nat) (cs : List C) : Option R :=
 if C.kns cs then ((r.st[id]?).bind (Ob.write ver i off cs)).map (r.setOb id) else none
def zLT (k : IntKind) (n : Int) : C:=.f (.lit (.int k n))
def zGN (k : IntKind) (n : Int) : V:=.one (.f (.lit (.int k n)))
def zk4 (b : Bool) : V:=.one (.f (.lit (.bool b)))
def vsl (xs : List (List Fz)) : V:=.one (.f (.sl xs))
def vf (x : Fz) : V:=.one (.f x)
def zEV (xs : List Fz) : V:=.agg (xs.map C.f)
def vfp (e : List Fz) : V:=.one (.fp e 0)
def zKB (c : C) : V:=.one c
def V.c1 : V → C
 | .one c => c
 | _ => .un
def zK7 (op : BinOp) (k : IntKind) (a b : Int) : Option V :=
 match op with
 | .add => some (.one (.f (.lit (.int k (k.wrap (a + b))))))
 | .sub => some (.one (.f (.lit (.int k (k.wrap (a - b))))))
 | .mul => some (.one (.f (.lit (.int k (k.wrap (a * b))))))
 | .quo => if b = 0 then none else some (.one (.f (.lit (.int k (k.wrap (a.tdiv b))))))
 | .rem => if b = 0 then none else some (.one (.f (.lit (.int k (a.tmod b)))))
 | .eql => some (.one (.f (.lit (.bool (decide (a = b))))))
 | .neq => some (.one (.f (.lit (.bool (!decide (a = b))))))
 | .lss => some (.one (.f (.lit (.bool (decide (a < b))))))
 | .leq => some (.one (.f (.lit (.bool (decide (a ≤ b))))))
 | .gtr => some (.one (.f (.lit (.bool (decide (b < a))))))
 | .geq => some (.one (.f (.lit (.bool (decide (b ≤ a))))))
 | .and => some (.one (.f (.lit (.int k (k.wrap (BitVec.ofInt k.bits a &&& BitVec.ofInt k.bits b).toNat)))))
 | .or => some (.one (.f (.lit (.int k (k.wrap (BitVec.ofInt k.bits a ||| BitVec.ofInt k.bits b).toNat)))))
 | .xor => some (.one (.f (.lit (.int k (k.wrap (BitVec.ofInt k.bits a ^^^ BitVec.ofInt k.bits b).toNat)))))
 | _ => none
def zEL (op : BinOp) (k : IntKind) (a b : Int) : Option V :=
 if 0 ≤ b then
  match op with
  | .shl => some (.one (.f (.lit (.int k (k.wrap (a * 2 ^ (min b.toNat k.bits)))))))
  | .shr => some (.one (.f (.lit (.int k (a.fdiv (2 ^ (min b.toNat k.bits)))))))
  | _ => none
 else none
def zKX (op : BinOp) (a b : Bool) : Option V :=
 match op with
 | .eql => some (.one (.f (.lit (.bool (a == b)))))
 | .neq => some (.one (.f (.lit (.bool (a != b)))))
 | _ => none
def zur : BinOp → Bool
 | .shl | .shr => true
 | _ => false
def zKm (op : BinOp) : V → V → Option V
 | .one (.f (.lit (.int k a))),.one (.f (.lit (.int k' b))) => if zur op then zEL op k a b else if k = k' then zK7 op k a b else none
 | _,_ => none
def aun : UnOp → V → Option V
 | .not,.one (.f (.lit (.bool b))) => some (.one (.f (.lit (.bool !b))))
 | .neg,.one (.f (.lit (.int k n))) => some (.one (.f (.lit (.int k (k.wrap (0 - n))))))
 | _,_ => none
def zlR : List C → List C → Option Bool
 | [],[] => some true
 | .f (.lit (.int k a)) :: xs,.f (.lit (.int k' b)) :: ys => if k = k' then (zlR xs ys).map (decide (a = b) && ·) else none
 | _,_ => none
def zKC (neg : Bool) : V → V → Option V
 | .one (.f (.lit (.bool a))),.one (.f (.lit (.bool b))) => some (zk4 (if neg then !(a == b) else a == b))
 | _,_ => none
def zLb (neg : Bool) : V → Option V
 | .one (.ptr _ _ _ _) => some (zk4 neg)
 | .one (.fp _ _) => some (zk4 neg)
 | .one (.f (.lit (.pointer none))) => some (zk4 (!neg))
 | _ => none
def zKa (neg b : Bool) : V:=zk4 (if neg then !b else b)
def zKr (n : Nat) (neg : Bool) : V → V → Option V
 | .agg xs,.agg ys => if xs.length = n then (zlR xs ys).map (zKa neg) else none
 | _,_ => none
abbrev zaz:=Nat → List V → zd → Option (V × zd)
def zAj : C → Option Fz
 | .f x => some x
 | .ap _ _ xs => some (.sl xs)
 | _ => none
def zhN {α : Type} : Option α → Option (List α) → Option (List α)
 | some x,some xs => some (x :: xs)
 | _,_ => none
def zgp : List C → Option (List Fz)
 | [] => some []
 | c :: cs => zhN (zAj c) (zgp cs)
def zbo : List (List C) → Option (List (List Fz))
 | [] => some []
 | c :: cs => zhN (zgp c) (zbo cs)
def Ob.frz (ver lo n : Nat) : Ob → Option (List (List Fz))
 | .cells ver' _ es => if ver' = ver then zbo ((es.drop lo).take n) else none
 | _ => none
def zIz (σ : zd) : V → Option V
 | .one (.own id ver lo n) => ((σ[id]?).bind (Ob.frz ver lo n)).map vsl
 | .one (.fn g [] []) => some (.one (.fn g [] []))
 | .one c => (zAj c).map vf
 | .agg cs => (zgp cs).map zEV
 | .tup _ => none
def zsv (σ : zd) : List V → Option (List V)
 | [] => some []
 | v :: vs => zhN (zIz σ v) (zsv σ vs)
def elems (σ : zd) : V → Option (List (List Fz))
 | .one (.own id ver lo n) => (σ[id]?).bind (Ob.frz ver lo n)
 | .one (.f (.sl xs)) => some xs
 | .one (.ap _ _ xs) => some xs
 | _ => none
def Ob.front (sz k : Nat) : Ob → Option Nat
 | .tok sz' fr => if sz' = sz then fr[k]? else none
 | _ => none
def Ob.setFront (k n : Nat) : Ob → Ob
 | .tok sz fr => .tok sz (fr.set k n)
 | o => o
def Ob.grow (n : Nat) (ys : List (List C)) : Ob → Ob
 | .cells ver sz es => .cells (ver + 1) sz (es.take n ++ ys)
 | o => o
def Ob.isRow (ver sz : Nat) : Ob → Bool
 | .cells ver' sz' _ => decide (ver' = ver) && decide (sz' = sz)
 | _ => false
def zpK (r : R) (d : D) (sz t k : Nat) (xs ys : List (List Fz)) (o : Ob) : Option R :=
 if o.front sz k = some xs.length ∧ xs.length + ys.length ≤ LIM then some ((r.setOb t (o.setFront k (xs.length + ys.length))).put d (.one (.ap t k (xs ++ ys)))) else none
def zvZ (r : R) (d : D) (sz id ver n : Nat) (ys : List (List Fz)) (o : Ob) : Option R :=
 if o.isRow ver sz = true ∧ 0 < n + ys.length ∧ n + ys.length ≤ LIM then some ((r.setOb id (o.grow n (ys.map fun e => e.map C.f))).put d (.one (.own id (ver + 1) 0 (n + ys.length)))) else if o.isRow ver sz = true ∧ n + ys.length = 0 then some (r.put d (.one (.own id ver 0 0))) else none
def zt9 (sz : Nat) : List (List Fz) → Bool
 | [] => true
 | e :: es => decide (e.length = sz) && zt9 sz es
def zHs (r : R) (d : D) (sz : Nat) (ys : List (List Fz)) : V → Option R
 | .one (.ap t k xs) => (r.st[t]?).bind (zpK r d sz t k xs ys)
 | .one (.own id ver 0 n) => (r.st[id]?).bind (zvZ r d sz id ver n ys)
 | .one (.f (.lit (.slice none 0 0))) => if ys.length ≤ LIM then some ((r.alloc (.tok sz [ys.length])).put d (.one (.ap r.st.length 0 ys))) else none
 | _ => none
def zl4 (r : R) (d : D) (sz id ver lo k : Nat) (ys : List (List Fz)) : Ob → Option R
 | .cells ver' sz' es => if ver' = ver ∧ sz' = sz ∧ lo + k ≤ es.length then
  some ((r.setOb id (.cells ver sz (es.take lo ++ ((ys.take k).map (fun e => e.map C.f) ++ es.drop (lo + k))))).put d (zGN .i64 k)) else none
 | _ => none
def zKc (r : R) (d : D) (sz : Nat) (ys : List (List Fz)) : V → Option R
 | .one (.own id ver lo n) => if min ys.length n = 0 then none else (r.st[id]?).bind (zl4 r d sz id ver lo (min ys.length n) ys)
 | _ => none
def zoU (r : R) : List (Nat × Nat × X) → List C → Option (List C)
 | [],cells => some cells
 | (off,sz,x) :: rest,cells => if (r.get x).cells.length = sz ∧ C.kns (r.get x).cells = true then (zHw cells off (r.get x).cells).bind (zoU r rest) else none
def zqj (r : R) (sz : Nat) : List (Nat × X) → List (List C) → Option (List (List C))
 | [],cells => some cells
 | (i,x) :: rest,cells => if i < cells.length ∧ (r.get x).cells.length = sz ∧ C.kns (r.get x).cells = true then zqj r sz rest (cells.set i (r.get x).cells) else none
def zHa (sz : Nat) : Ob:=if 4096 ≤ sz then .cells 0 (sz - 4096) [] else .tok sz [0]
def zI0 (t sz : Nat) : C:=if 4096 ≤ sz then .own t 0 0 0 else .ap t 0 []
def zht : Nat → List (Nat × Nat) → List C → List C
 | _,[],cs => cs
 | t,j :: js,cs => zht (t + 1) js (cs.set j.1 (zI0 t j.2))
def tokens : List (Nat × Nat) → List Ob
 | [] => []
 | j :: js => zHa j.2 :: tokens js
def R.allocs (r : R) (os : List Ob) : R:={ r with st:=r.st ++ os }
def aal (r : R) (d : D) (zero : List C) (fresh : List (Nat × Nat)) : R :=
 (r.allocs (tokens fresh ++ [.cells 0 zero.length [zht r.st.length fresh zero]])).put d (.one (.ptr (r.st.length + fresh.length) 0 0 0))
def zI4 (r : R) (d : D) (fresh : List (Nat × Nat)) (cs : List C) : R:=(r.allocs (tokens fresh)).put d (.agg cs)
def zIn (r : R) (d : D) (xs : List (List Fz)) : R:=r.put d (vsl xs)
def zDh (r : R) (d : D) (sz : Nat) (xs : List (List Fz)) : R:=(r.alloc (.tok sz [xs.length])).put d (.one (.ap r.st.length 0 xs))
def zyU (r : R) (d : D) (sz : Nat) : B → List (List C) → Option R
 | .fz,es => (zbo es).map (zIn r d)
 | .tk,es => (zbo es).map (zDh r d sz)
 | .rw,es => some ((r.alloc (.cells 0 sz es)).put d (.one (.own r.st.length 0 0 es.length)))
def zJG : V → Option V
 | .one (.own _ _ _ n) => some (zGN .i64 n)
 | .one (.f (.sl xs)) => some (zGN .i64 xs.length)
 | .one (.ap _ _ xs) => some (zGN .i64 xs.length)
 | _ => none
def zLf : V → Option V
 | .one (.f (.lit (.string s))) => some (zGN .i64 s.size)
 | _ => none
def afa (off : Nat) : V → Option V
 | .one (.ptr id ver i o) => some (.one (.ptr id ver i (o + off)))
 | .one (.fp cs o) => some (.one (.fp cs (o + off)))
 | _ => none
def zJa (sz : Nat) (e : List Fz) : Option V:=if e.length = sz then some (vfp e) else none
def zwt (id ver sz lo : Nat) (k : Int) (o : Ob) : Option V:=if o.isRow ver sz then some (.one (.ptr id ver (lo + k.toNat) 0)) else none
def aia (σ : zd) (sz : Nat) : V → V → Option V
 | .one (.own id ver lo n),.one (.f (.lit (.int _ k))) => if 0 ≤ k ∧ k < n then (σ[id]?).bind (zwt id ver sz lo k) else none
 | .one (.f (.sl xs)),.one (.f (.lit (.int _ k))) => if 0 ≤ k then (xs[k.toNat]?).bind (zJa sz) else none
 | .one (.ap _ _ xs),.one (.f (.lit (.int _ k))) => if 0 ≤ k then (xs[k.toNat]?).bind (zJa sz) else none
 | _,_ => none
def zKu (n sz : Nat) : V → V → Option V
 | .one (.ptr id ver j o),.one (.f (.lit (.int _ k))) => if 0 ≤ k ∧ k < n then some (.one (.ptr id ver j (o + k.toNat * sz))) else none
 | .one (.fp cs o),.one (.f (.lit (.int _ k))) => if 0 ≤ k ∧ k < n then some (.one (.fp cs (o + k.toNat * sz))) else none
 | _,_ => none
def cut {α : Type} (o n : Nat) (e : List α) : Option (List α):=if o + n ≤ e.length then some ((e.drop o).take n) else none
def ald (σ : zd) : Option Nat → V → Option V
 | none,.one (.ptr id ver i o) => (σ.cell id ver i o).map zKB
 | none,.one (.fp cs o) => (cs[o]?).map vf
 | some n,.one (.ptr id ver i o) => ((σ.elem id ver i).bind (cut o n)).map V.agg
 | some n,.one (.fp cs o) => (cut o n cs).map zEV
 | _,_ => none
def ast (r : R) (sz : Nat) (cs : List C) : V → Option R
 | .one (.ptr id ver i o) => if cs.length = sz then r.write id ver i o cs else none
 | _ => none
def zLP (r : R) (sz : Nat) (v : V) : Option R:=ast (r.alloc (.tok sz [0])) 1 [.ap r.st.length 0 []] v
def nest (t : Nat) (zero : List C) (j : Nat) (k : Nat) : List C:=zero.set j (.ap t k [])
def zI2 (r : R) (d : D) (zero : List C) : Option (Nat × Nat) → V → Option R
 | none,.one (.f (.lit (.int _ k))) => if 0 ≤ k ∧ k ≤ LIM then some ((r.alloc (.cells 0 zero.length (yj k.toNat zero))).put d (.one (.own r.st.length 0 0 k.toNat))) else none
 | some j,.one (.f (.lit (.int _ k))) => if 0 ≤ k ∧ k ≤ LIM then
  some ((r.allocs [.tok j.2 (yj k.toNat 0),.cells 0 zero.length ((yq k.toNat).map (nest r.st.length zero j.1))]).put d (.one (.own (r.st.length + 1) 0 0 k.toNat))) else none
 | _,_ => none
def zJU (t : Nat) (zero : List C) (j : Nat) (k : Nat) : List C:=zero.set j (.own (t + k) 0 0 0)
def zLM (r : R) (d : D) (zero : List C) (j sz : Nat) : V → Option R
 | .one (.f (.lit (.int _ k))) => if 0 ≤ k ∧ k ≤ LIM then
  some ((r.allocs (yj k.toNat (.cells 0 sz []) ++ [.cells 0 zero.length ((yq k.toNat).map (zJU r.st.length zero j))])).put d (.one (.own (r.st.length + k.toNat) 0 0 k.toNat))) else none
 | _ => none
def zJj (r : R) (d : D) (sz : Nat) : V → Option R
 | .one (.f (.lit (.int _ k))) => if 0 ≤ k ∧ k ≤ LIM then some ((r.alloc (.tok sz [0])).put d (.one (.ap r.st.length 0 []))) else none
 | _ => none
def zGu : V → Option Nat
 | .one (.f (.lit (.int _ k))) => if 0 ≤ k then some k.toNat else none
 | _ => none
def bound (r : R) (dflt : Nat) : Option X → Option Nat
 | none => some dflt
 | some x => zGu (r.get x)
def zDk (sz : Nat) (xs : List (List Fz)) (lo hi : Nat) : Option V:=if lo ≤ hi ∧ hi ≤ xs.length ∧ zt9 sz xs = true then some (vsl ((xs.take hi).drop lo)) else none
def zBG (σ : zd) (sz id ver l n lo hi : Nat) : Option V:=if lo ≤ hi ∧ hi ≤ n ∧ (σ[id]?).any (Ob.isRow ver sz) = true then some (.one (.own id ver (l + lo) (hi - lo))) else none
def zJd (s : ByteArray) (lo hi : Nat) : Option V:=if lo ≤ hi ∧ hi ≤ s.size then some (.one (.f (.lit (.string (s.extract lo hi))))) else none
def two (f : Nat → Nat → Option V) : Option Nat → Option Nat → Option V
 | some a,some b => f a b
 | _,_ => none
def zx5 : V → V → Bool
 | .one (.f (.lit (.int k a))),.one (.f (.lit (.int k' b))) => decide (k = k') && decide (a = b)
 | _,_ => false
def zGS (r : R) (hi : Option X) : Option X → Bool
 | none => true
 | some m => match hi with
   | some h => zx5 (r.get m) (r.get h)
   | none => false
def zJ3 (r : R) (sz : Nat) (lo hi : Option X) (mx : Bool) : V → Option V
 | .one (.f (.sl xs)) => two (zDk sz xs) (bound r 0 lo) (bound r xs.length hi)
 | .one (.ap _ _ xs) => two (zDk sz xs) (bound r 0 lo) (bound r xs.length hi)
 | .one (.own id ver l n) => if mx then none else two (zBG r.st sz id ver l n) (bound r 0 lo) (bound r n hi)
 | _ => none
def zLj (r : R) (lo hi : Option X) : V → Option V
 | .one (.f (.lit (.string s))) => two (zJd s) (bound r 0 lo) (bound r s.size hi)
 | _ => none
def zLH : V → Bool
 | .one (.f (.sl _)) => true
 | .one (.ap _ _ _) => true
 | _ => false
def zKA (i : Nat) : V → Option V
 | .tup vs => vs[i]?
 | _ => none
def zzT (off : Nat) : Option Nat → V → Option V
 | none,.agg cs => (cs[off]?).map zKB
 | some n,.agg cs => (cut off n cs).map V.agg
 | _,_ => none
def zLI (n : Nat) : V → V → Option V
 | .agg cs,.one (.f (.lit (.int _ k))) => if 0 ≤ k ∧ k < n then (cs[k.toNat]?).map zKB else none
 | _,_ => none
def single (c : Fz) : List Fz:=[c]
def zLJ (n lo : Nat) : V → Option V
 | .one (.fp cs 0) => if cs.length = n ∧ lo ≤ n then some (vsl ((cs.drop lo).map single)) else none
 | _ => none
def byteOf : List Fz → Option Int
 | [.lit (.int .u8 n)] => some n
 | _ => none
def bytesOf : List (List Fz) → Option (List Int)
 | [] => some []
 | e :: es => zhN (byteOf e) (bytesOf es)
def strOf (ns : List Int) : ByteArray:=⟨(ns.map fun n => UInt8.ofNat n.toNat).toArray⟩
def zLG (ns : List Int) : V:=.one (.f (.lit (.string (strOf ns))))
def zLN (xs : List (List Fz)) : Option V:=(bytesOf xs).map zLG
def zLq (neg : Bool) : V → V → Option V
 | .one (.f (.lit (.string a))),.one (.f (.lit (.string b))) => some (zk4 (if neg then !(a.toList == b.toList) else a.toList == b.toList))
 | _,_ => none
def zDN (r : R) (d : D) (sz id ver n : Nat) (rows : List (List Fz)) : R:=(r.setOb id (.cells (ver + 1) sz [])).put d (vsl (rows.take n))
def zHq (r : R) (d : D) (sz id ver n : Nat) : Ob → Option R
 | .cells ver' sz' es => if ver' = ver ∧ sz' = sz then (zbo es).map (zDN r d sz id ver n) else none
 | _ => none
def zLK (r : R) (d : D) (sz : Nat) : V → Option R
 | .one (.own id ver 0 n) => (r.st[id]?).bind (zHq r d sz id ver n)
 | _ => none
def Ob.rows (ver sz : Nat) : Ob → Option (List (List Fz))
 | .cells ver' sz' es => if ver' = ver ∧ sz' = sz then zbo es else none
 | _ => none
def zBK (r : R) (d : D) (sz id ver i o off id2 ver2 n : Nat) (rows : List (List Fz)) : Option R :=
 ((r.setOb id2 (.cells (ver2 + 1) sz [])).write id ver i (o + off) [.f (.sl (rows.take n))]).map fun r => r.put d (.one (.ptr id ver i o))
def zHd (r : R) (d : D) (off sz id ver i o : Nat) : C → Option R
 | .own id2 ver2 0 n => ((r.st[id2]?).bind (Ob.rows ver2 sz)).bind (zBK r d sz id ver i o off id2 ver2 n)
 | .f _ => some (r.put d (.one (.ptr id ver i o)))
 | _ => none
def zK8 (r : R) (d : D) (off sz : Nat) : V → Option R
 | .one (.ptr id ver i o) => (r.st.cell id ver i (o + off)).bind (zHd r d off sz id ver i o)
 | _ => none
def zLQ (r : R) (d : D) (fs : List Fz) : R:=r.put d (.one (.fp fs 0))
def zKl : V → Option V
 | .one (.ptr id ver i o) => some (.one (.ptr id ver i o))
 | .one (.fp cs o) => some (.one (.fp cs o))
 | .one (.fn f a b) => some (.one (.fn f a b))
 | _ => none
def zFq (a b : V) : V → Option V
 | .one (.f (.lit (.bool t))) => some (if t then a else b)
 | _ => none
def zFU (k : IntKind) : V → Option V
 | .one (.f (.lit (.int _ n))) => some (zGN k (k.wrap n))
 | _ => none
def zKq (isMax : Bool) : V → V → Option V
 | .one (.f (.lit (.int k a))),.one (.f (.lit (.int k' b))) => if k = k' then some (zGN k (if isMax then max a b else min a b)) else none
 | _,_ => none
def zhM (k : Int) : List (Int × V) → Option V
 | [] => none
 | e :: es => if e.1 = k then some e.2 else zhM k es
def zg5 (k : Int) (v : V) : List (Int × V) → List (Int × V)
 | [] => [(k,v)]
 | e :: es => if e.1 = k then (k,v) :: es else e :: zg5 k v es
def Ob.entries : Ob → Option (List (Int × V))
 | .mp es => some es
 | _ => none
def zHY (zero : V) (ok : Bool) : Option V → V
 | some v => if ok then .tup [v,zk4 true] else v
 | none => if ok then .tup [zero,zk4 false] else zero
def alk (σ : zd) (zero : V) (ok : Bool) : V → V → Option V
 | .one (.map id),.one (.f (.lit (.int .i64 k))) => ((σ[id]?).bind Ob.entries).map fun es => zHY zero ok (zhM k es)
 | .one (.f (.lit (.map none))),.one (.f (.lit (.int .i64 _))) => some (zHY zero ok none)
 | _,_ => none
def zI9 (r : R) (id : Nat) (k : Int) (v : V) (es : List (Int × V)) : R:=r.setOb id (.mp (zg5 k v es))
def amu (r : R) (v : V) : V → V → Option R
 | .one (.map id),.one (.f (.lit (.int .i64 k))) => ((r.st[id]?).bind Ob.entries).map (zI9 r id k v)
 | _,_ => none
mutual
def C.shift (n : Nat) : C → C
 | .f x => .f x
 | .ap t k xs => .ap (t + n) k xs
 | .ptr id ver i o => .ptr (id + n) ver i o
 | .fp cs o => .fp cs o
 | .own id ver lo m => .own (id + n) ver lo m
 | .map id => .map (id + n)
 | .fn g a b => .fn g (C.shifts n a) (C.shifts n b)
 | .un => .un
def C.shifts (n : Nat) : List C → List C
 | [] => []
 | c :: cs => c.shift n :: C.shifts n cs
end
mutual
def V.shift (n : Nat) : V → V
 | .one c => .one (c.shift n)
 | .agg cs => .agg (C.shifts n cs)
 | .tup vs => .tup (V.shifts n vs)
def V.shifts (n : Nat) : List V → List V
 | [] => []
 | v :: vs => v.shift n :: V.shifts n vs
end
def Ob.shift (n : Nat) : Ob → Ob
 | .cells ver sz es => .cells ver sz (es.map (C.shifts n))
 | .tok sz fr => .tok sz fr
 | .mp es => .mp (es.map fun e => (e.1,e.2.shift n))
def zyC : V → Bool
 | .one (.own _ _ _ _) => true
 | _ => false
mutual
def V.plain : V → Bool
 | .one (.f (.lit _)) => true
 | .one _ => false
 | .agg cs => cs.all fun c => match c with
   | .f (.lit _) => true
   | _ => false
 | .tup vs => V.plains vs
def V.plains : List V → Bool
 | [] => true
 | v :: vs => v.plain && V.plains vs
end
def zzE (r : R) (d : D) (lent : Bool) (x : V × zd) : Option R:=if x.2.length = 0 ∧ (lent = false ∨ x.1.plain = true) then some (r.put d x.1) else none
def zzw (r : R) (d : D) (x : V × zd) : R:={ r with st:=r.st ++ x.2.map (Ob.shift r.st.length) }.put d (x.1.shift r.st.length)
def zyW (r : R) (d : D) (x : V × zd) : R:={ r with st:=x.2 }.put d x.1
def closed (c : zaz) (g : Nat) (aS : List V) : Option (V × zd):=c g aS []
def zqh (call : zaz) (r : R) (d : D) (m : Mode) (args : List V) : V → Option R
 | .one (.fn g first caps) =>
   match m with
   | .cl => ((zsv r.st (first.map V.one ++ (args ++ caps.map V.one))).bind (closed call g)).bind (zzE r d ((first.map V.one ++ (args ++ caps.map V.one)).any zyC))
   | .ck => if (first.map V.one ++ (args ++ caps.map V.one)).any zyC then none else ((zsv r.st (first.map V.one ++ (args ++ caps.map V.one))).bind (closed call g)).map (zzw r d)
   | .op => (call g (first.map V.one ++ (args ++ caps.map V.one)) r.st).map (zyW r d)
 | _ => none
def R.gets (r : R) : List X → List V
 | [] => []
 | x :: xs => r.get x :: r.gets xs
def anl (r : R) (d : D) (sz : Nat) : B → Option R
 | .tk => some ((r.alloc (.tok sz [0])).put d (.one (.ap r.st.length 0 [])))
 | .rw => some ((r.alloc (.cells 0 sz [])).put d (.one (.own r.st.length 0 0 0)))
 | .fz => some (r.put d (vsl []))
def zbM (call : zaz) (r : R) (d : D) : Op → Option R
 | .mv x => some (r.put d (r.get x))
 | .pick c a b => (zFq (r.get a) (r.get b) (r.get c)).map (r.put d)
 | .bin op x y => (zKm op (r.get x) (r.get y)).map (r.put d)
 | .beq neg x y => (zKC neg (r.get x) (r.get y)).map (r.put d)
 | .eqa n neg x y => (zKr n neg (r.get x) (r.get y)).map (r.put d)
 | .un op x => (aun op (r.get x)).map (r.put d)
 | .conv k x => (zFU k (r.get x)).map (r.put d)
 | .len x => (zJG (r.get x)).map (r.put d)
 | .fa off x => (afa off (r.get x)).map (r.put d)
 | .ia sz x i => (aia r.st sz (r.get x) (r.get i)).map (r.put d)
 | .iaa n sz x i => (zKu n sz (r.get x) (r.get i)).map (r.put d)
 | .ld sz x => (ald r.st sz (r.get x)).map (r.put d)
 | .st sz x v => (ast r sz (r.get v).cells (r.get x)).map fun r => r.put d vun
 | .al zero fresh => some (aal r d zero fresh)
 | .box sz x => if (r.get x).cells.length = sz ∧ C.kns (r.get x).cells = true then some ((r.alloc (.cells 0 sz [(r.get x).cells])).put d (.one (.ptr r.st.length 0 0 0))) else none
 | .bld zero parts fresh => (zoU r parts (zht r.st.length fresh zero)).map (zI4 r d fresh)
 | .bsl b sz zero parts => (zqj r sz parts zero).bind (zyU r d sz b)
 | .nl b sz => anl r d sz b
 | .app sz s x => (elems r.st (r.get x)).bind fun ys => if zt9 sz ys then zHs r d sz ys (r.get s) else none
 | .cpy sz x y => (elems r.st (r.get y)).bind fun ys => if zt9 sz ys then zKc r d sz ys (r.get x) else none
 | .mks zero fresh n => zI2 r d zero fresh (r.get n)
 | .mkc sz n => zJj r d sz (r.get n)
 | .slc sz x lo hi mx => if zGS r hi mx = true then (zJ3 r sz lo hi mx.isSome (r.get x)).map (r.put d) else none
 | .ext x i => (zKA i (r.get x)).map (r.put d)
 | .fld off sz x => (zzT off sz (r.get x)).map (r.put d)
 | .nil x => (zKl (r.get x)).map (r.put d)
 | .mkf f first caps => some (r.put d (.one (.fn f ((r.gets first).map V.c1) ((r.gets caps).map V.c1))))
 | .mkm => some ((r.alloc (.mp [])).put d (.one (.map r.st.length)))
 | .lk zero ok m k => (alk r.st zero ok (r.get m) (r.get k)).map (r.put d)
 | .mu m k v => (amu r (r.get v) (r.get m) (r.get k)).map fun r => r.put d vun
 | .mxn isMax x y => (zKq isMax (r.get x) (r.get y)).map (r.put d)
 | .call m f args => zqh call r d m (r.gets args) (r.get f)
 | .no _ => none
def zpW (call : zaz) (r : R) (d : D) (op : Op) (b : Bool) : V → Option R
 | .one (.f (.lit (.bool t))) => if t = b then zbM call r d op else some (r.put d (.tup []))
 | .tup [] => some (r.put d (.tup []))
 | _ => none
def step (call : zaz) (r : R) : Oper → Option R
 | ⟨d,op,none⟩ => zbM call r d op
 | ⟨d,op,some (x,b)⟩ => zpW call r d op b (r.get x)
def steps (call : zaz) : List Oper → R → Option R
 | [],r => some r
 | o :: os,r => (step call r o).bind (steps call os)
def Value.beq : Value → Value → Bool
 | .int k a,.int k' b => decide (k = k') && decide (a = b)
 | .bool a,.bool b => a == b
 | .string a,.string b => decide (a.data.toList = b.data.toList)
 | _,_ => false
mutual
def Fz.beq : Fz → Fz → Bool
 | .lit v,.lit u => Value.beq v u
 | .sl xs,.sl ys => Fz.beqs xs ys
 | _,_ => false
def Fz.beqR : List Fz → List Fz → Bool
 | [],[] => true
 | x :: xs,y :: ys => x.beq y && Fz.beqR xs ys
 | _,_ => false
def Fz.beqs : List (List Fz) → List (List Fz) → Bool
 | [],[] => true
 | x :: xs,y :: ys => Fz.beqR x y && Fz.beqs xs ys
 | _,_ => false
end
def C.beq : C → C → Bool
 | .f x,.f y => x.beq y
 | .ap t k xs,.ap t' k' ys => decide (t = t') && decide (k = k') && Fz.beqs xs ys
 | .ptr a b c d,.ptr a' b' c' d' => decide (a = a') && decide (b = b') && decide (c = c') && decide (d = d')
 | .fp xs o,.fp ys o' => Fz.beqR xs ys && decide (o = o')
 | .own a b c d,.own a' b' c' d' => decide (a = a') && decide (b = b') && decide (c = c') && decide (d = d')
 | .map a,.map b => decide (a = b)
 | _,_ => false
def C.beqs : List C → List C → Bool
 | [],[] => true
 | x :: xs,y :: ys => x.beq y && C.beqs xs ys
 | _,_ => false
def V.beq : V → V → Bool
 | .one c,.one d => c.beq d
 | .agg cs,.agg ds => C.beqs cs ds
 | _,_ => false
def zwb : zaz:=fun _ _ _ => none
def zpA : Option R → Option R → Bool
 | some a,some b => (a.rs.headD vun).beq (b.rs.headD vun)
 | _,_ => false
def zcc (c : zaz) (ops : List Oper) (r : R) (p : Nat × Nat) : Bool:=match steps c (ops.take p.1) r,steps c (ops.take p.2) r,ops[p.1]? with
 | some rj,some rk,some x => zpA (step zwb { rj with st:=rk.st } x) (step zwb rj x)
 | _,_,_ => false
def zxf (c : zaz) (ps : List (Nat × Nat)) (ops : List Oper) (r : R) : Option R:=(steps c ops r).bind fun r1 => if ps.all (zcc c ops r) then some r1 else none
structure St where
 env : List V
 st : zd
 base : Nat
 lim : Nat
def clr : List Bool → List V → List V
 | [],_ => []
 | true :: bs,v :: vs => v :: clr bs vs
 | false :: bs,_ :: vs => vun :: clr bs vs
 | _,[] => []
def zn1 (n : Nat) (env : List V) (σ : zd) : Option zd :=
 if σ.length ≤ n then some σ else if V.lts n env && Obs.lt n (σ.take n) then some (σ.take n) else none
def St.mkSt (s : St) (env : List V) (σ : zd) : St:={ s with env:=env,st:=σ }
def St.clear (s : St) (live : List Bool) (objs : Nat) : Option St :=
 (zn1 (s.base + objs) (clr live s.env) s.st).map (s.mkSt (clr live s.env))
def zIJ (e : Ex) (s : St) : Ex × St:=(e,s)
def findLabel : Code → Nat → Option Code
 | .seq a b,l => match findLabel a l with
   | some rest => some (.seq rest b)
   | none => findLabel b l
 | .label l',l => if l' = l then some .skip else none
 | _,_ => none
def enter (fn : Fun) (args : List V) (σ : zd) : St:=⟨args ++ yj (fn.nslots - args.length) vun,σ,σ.length,σ.length + fn.keep⟩
def zGn (lim : Nat) (σ : zd) : C → Option Fz
 | .own id ver lo n => if lim ≤ id then ((σ[id]?).bind (Ob.frz ver lo n)).map Fz.sl else none
 | c => zAj c
def zkL (lim : Nat) (σ : zd) : List C → Option (List Fz)
 | [] => some []
 | c :: cs => zhN (zGn lim σ c) (zkL lim σ cs)
def zHp (lim : Nat) (σ : zd) : V → Option V
 | .one (.own id ver lo n) => if lim ≤ id then ((σ[id]?).bind (Ob.frz ver lo n)).map vsl else none
 | .one (.ap _ _ xs) => some (vsl xs)
 | .agg cs => (zkL lim σ cs).map zEV
 | v => some v
def zwE (σ : zd) (env : List V) : Nat × Option (Option Nat) → Option V
 | (t,none) => some (env.getD t vun)
 | (t,some sz) => ald σ sz (env.getD t vun)
def zCO (raw : Bool) (lim : Nat) (σ : zd) (v : V) : Option V:=if raw then some v else zHp lim σ v
def outs (raw : Bool) (lim : Nat) (σ : zd) (env : List V) : List (Nat × Option (Option Nat)) → Option (List V)
 | [] => some []
 | t :: ts => zhN ((zwE σ env t).bind (zCO raw lim σ)) (outs raw lim σ env ts)
def zHj : List V → V
 | [v] => v
 | vs => .tup vs
def zof (lim : Nat) (σ : zd) (vs : List V) : Option (V × zd):=(zn1 lim vs σ).map fun σ' => (zHj vs,σ')
def leave (raw : Bool) (res : List (Nat × Option (Option Nat))) : Ex × St → Option (V × zd)
 | (.normal,s) => (outs raw s.lim s.st s.env res).bind (zof s.lim s.st)
 | (.ret,s) => (outs raw s.lim s.st s.env res).bind (zof s.lim s.st)
 | _ => none
inductive Entry where
 | fn (f : Fun)
 | ext (f : List V → zd → Option (V × zd))
def zg2 (T : Nat → Option Entry) (E : Code → St → Option (Ex × St)) : zaz:=fun f args σ =>
 match T f with
 | some (.fn fn) => if args.length = fn.np then (E fn.body (enter fn args σ)).bind (leave fn.raw fn.results) else none
 | some (.ext g) => g args σ
 | none => none
def zsm (E : St → Option (Ex × St)) : Ex × St → Option (Ex × St)
 | (.normal,s) => E s
 | (.exit i,s) => some (.exit i,s)
 | (.goto i,s) => some (.goto i,s)
 | (.ret,s) => some (.ret,s)
def zuo (A B : St → Option (Ex × St)) (s : St) : V → Option (Ex × St)
 | .one (.f (.lit (.bool t))) => if t then A s else B s
 | _ => none
def zwe (id : Nat) : Ex × St → Ex × St
 | (.exit id',s) => if id' = id then (.normal,s) else (.exit id',s)
 | r => r
def zq7 (E : St → Option (Ex × St)) (live : List Bool) (objs : Nat) : Ex × St → Option (Ex × St)
 | (.normal,s) => (s.clear live objs).bind E
 | (.exit i,s) => some (.exit i,s)
 | (.goto i,s) => some (.goto i,s)
 | (.ret,s) => some (.ret,s)
def scK (E : Code → St → Option (Ex × St)) (body : Code) : Ex × St → Option (Ex × St)
 | (.goto l,s) => match findLabel body l with
   | some rest => E (.sc body rest) s
   | none => some (.goto l,s)
 | r => some r
def zDd (base lim : Nat) (r : R) : Ex × St:=(.normal,⟨r.env,r.st,base,lim⟩)
def zjc (off : Nat) (sz : Option Nat) (row : Nat) : List (Int × V) → List (Int × V) → Option (List (Int × V))
 | [],ds => some ds
 | e :: es,ds => if e.2.cells.length = row ∧ C.kns e.2.cells = true then (zzT off sz e.2).bind fun v => zjc off sz row es (zg5 e.1 v ds) else none
def zyZ (sp : Spec) (s : St) (σ : zd) : V → V → Option St
 | .one (.map id),.one (.map id') => if id = id' then none else
  ((σ[id]?).bind Ob.entries).bind fun es => ((σ[id']?).bind Ob.entries).bind fun ds => (zjc sp.off sp.sz sp.row es ds).map fun ds' => s.mkSt s.env (σ.set id' (.mp ds'))
 | _,_ => none
def zxc (sp : Spec) (s : St) : Option St:=(steps zwb sp.pre ⟨[],s.env,s.st,s.base,s.lim⟩).bind fun r => zyZ sp (s.mkSt r.env r.st) r.st (r.get sp.m) (r.env.getD sp.dst vun)
def zae (T : Nat → Option Entry) : Nat → Code → St → Option (Ex × St)
 | 0,_,_ => none
 | n + 1,c,s =>
   match c with
   | .skip => some (.normal,s)
   | .reg ops => (steps (zg2 T (zae T n)) ops ⟨[],s.env,s.st,s.base,s.lim⟩).map (zDd s.base s.lim)
   | .regd ps ops => (zxf (zg2 T (zae T n)) ps ops ⟨[],s.env,s.st,s.base,s.lim⟩).map (zDd s.base s.lim)
   | .spec sp => (zxc sp s).map (zIJ .normal)
   | .seq a b => (zae T n a s).bind (zsm (zae T n b))
   | .cond x a b => zuo (zae T n a) (zae T n b) s ((R.mk [] s.env s.st s.base s.lim).get x)
   | .block id body => (zae T n body s).map (zwe id)
   | .loop live objs body => (zae T n body s).bind (zq7 (zae T n (.loop live objs body)) live objs)
   | .exit id live objs => (s.clear live objs).map (zIJ (.exit id))
   | .scope body => zae T n (.sc body body) s
   | .sc body cur => (zae T n cur s).bind (scK (zae T n) body)
   | .label _ => some (.normal,s)
   | .goto l live objs => (s.clear live objs).map (zIJ (.goto l))
   | .ret live => some (.ret,s.mkSt (clr live s.env) s.st)
def Le {α : Type} (a b : Option α) : Prop:=∀ r,a = some r → b = some r
theorem Le.refl {α : Type} (a : Option α) : Le a a:=fun _ h => h
theorem Le.bind {α β : Type} {a b : Option α} {K c : α → Option β} (h : Le a b) (g : ∀ x,Le (K x) (c x)) : Le (a.bind K) (b.bind c):=by
 intro r d;rw [ya] at d ⊢;obtain ⟨x,e,f⟩:=d;exact ⟨x,h x e,g x r f⟩
theorem Le.map {α β : Type} {a b : Option α} (h : Le a b) (f : α → β) : Le (a.map f) (b.map f):=by
 intro r c;rw [yd] at c ⊢;obtain ⟨x,d,e⟩:=c;exact ⟨x,h x d,e⟩
def LeC (c c' : zaz) : Prop:=∀ f a σ,Le (c f a σ) (c' f a σ)
theorem zA7 {c a : zaz} (h : LeC c a) (r : R) (d : D) (m : Mode) (aS : List V) (v : V) : Le (zqh c r d m aS v) (zqh a r d m aS v):=by
 unfold zqh;split
 ·cases m
  ·exact ((Le.refl _).bind fun aS => h _ _ _).bind fun _ => Le.refl _
  ·dsimp only
   split
   ·exact Le.refl _
   ·exact ((Le.refl _).bind fun aS => h _ _ _).map _
  ·exact (h _ _ _).map _
 ·exact Le.refl _
theorem zrs {c a : zaz} (h : LeC c a) (r : R) (d : D) (o : Op) : Le (zbM c r d o) (zbM a r d o):=by
 cases o
 case call m f args => exact zA7 h r d m _ _
 all_goals exact Le.refl _
theorem znX {c a : zaz} (h : LeC c a) (r : R) (o : Oper) : Le (step c r o) (step a r o):=by
 obtain ⟨d,op,g⟩:=o
 cases g with
 | none => exact zrs h r d op
 | some g =>
   obtain ⟨x,b⟩:=g;simp only [step];generalize r.get x = v;unfold zpW;split
   ·split
    ·exact zrs h r d op
    ·exact Le.refl _
   ·exact Le.refl _
   ·exact Le.refl _
theorem zel {c a : zaz} (h : LeC c a) : ∀ (os : List Oper) (r : R),Le (steps c os r) (steps a os r)
 | [],_ => Le.refl _
 | o :: os,r => (znX h r o).bind fun x => zel h os x
theorem zkC {c b : zaz} (h : LeC c b) (ops : List Oper) (r : R) (p : Nat × Nat) (a : zcc c ops r p = true) : zcc b ops r p = true:=by
 unfold zcc at a ⊢;split at a
 ·rename_i i g x d f e
  rw [zel h _ _ _ d,zel h _ _ _ f,e];exact a
 ·cases a
theorem zv0 {c d : zaz} (h : LeC c d) (ps : List (Nat × Nat)) (ops : List Oper) (r : R) : Le (zxf c ps ops r) (zxf d ps ops r):=by
 intro r1 a;unfold zxf at a ⊢;rw [ya] at a ⊢;obtain ⟨f,g,b⟩:=a;refine ⟨f,zel h _ _ _ g,?_⟩;split at b
 ·rename_i i
  rw [if_pos (yf.2 fun p e => zkC h _ _ _ (yf.1 i p e))];exact b
 ·cases b
theorem zmh {T : Nat → Option Entry} {E b : Code → St → Option (Ex × St)} (h : ∀ c s,Le (E c s) (b c s)) : LeC (zg2 T E) (zg2 T b):=by
 intro f a σ;unfold zg2;split
 ·split
  ·exact (h _ _).bind fun _ => Le.refl _
  ·exact Le.refl _
 ·exact Le.refl _
 ·exact Le.refl _
theorem zw0 {E a : St → Option (Ex × St)} (h : ∀ s,Le (E s) (a s)) (x : Ex × St) : Le (zsm E x) (zsm a x):=by
 obtain ⟨e,s⟩:=x
 cases e <;> first | exact h s | exact Le.refl _
theorem zti {E b : St → Option (Ex × St)} (h : ∀ s,Le (E s) (b s)) (c : List Bool) (a : Nat) (x : Ex × St) : Le (zq7 E c a x) (zq7 b c a x):=by
 obtain ⟨e,s⟩:=x
 cases e <;> first | exact (Le.refl _).bind h | exact Le.refl _
theorem zAZ {A b B a : St → Option (Ex × St)} (h : ∀ s,Le (A s) (b s)) (c : ∀ s,Le (B s) (a s)) (s : St) (v : V) : Le (zuo A B s v) (zuo b a s v):=by
 unfold zuo;split
 ·split
  ·exact h s
  ·exact c s
 ·exact Le.refl _
theorem zzL {E a : Code → St → Option (Ex × St)} (h : ∀ c s,Le (E c s) (a c s)) (body : Code) (x : Ex × St) : Le (scK E body x) (scK a body x):=by
 obtain ⟨e,s⟩:=x;cases e <;> simp only [scK]
 case goto l =>
  split
  ·exact h _ _
  ·exact Le.refl _
 all_goals exact Le.refl _
theorem ztn (T : Nat → Option Entry) : ∀ (n : Nat) (c : Code) (s : St),Le (zae T n c s) (zae T (n + 1) c s)
 | 0,_,_ => fun r h => by simp [zae] at h
 | n + 1,c,s => by
   have d:=ztn T n;cases c <;> simp only [zae]
   case reg ops => exact (zel (zmh d) ops _).map _
   case regd ps ops => exact (zv0 (zmh d) ps ops _).map _
   case seq a b => exact (d a s).bind (zw0 (d b))
   case cond x a b => exact zAZ (d a) (d b) s _
   case block id body => exact (d body s).map _
   case loop lv ob body => exact (d body s).bind (zti (d _) lv ob)
   case scope body => exact d _ _
   case sc body cur => exact (d cur s).bind (zzL d body)
   all_goals exact Le.refl _
theorem zkd (T : Nat → Option Entry) {n m : Nat} (a : n ≤ m) (c : Code) (s : St) : Le (zae T n c s) (zae T m c s):=by
 induction a with
 | refl => exact Le.refl _
 | step _ ih => exact fun r h => ztn T _ _ _ r (ih r h)
open Classical in
noncomputable def exec (T : Nat → Option Entry) (c : Code) (s : St) : Option (Ex × St) :=
 if h : ∃ r n,zae T n c s = some r then some h.choose else none
theorem zdN {T : Nat → Option Entry} {c : Code} {s : St} {r : Ex × St} : exec T c s = some r ↔ ∃ n,zae T n c s = some r:=by
 unfold exec;constructor
 ·intro h
  split at h
  ·rename_i a
   injection h with h;subst h;exact a.choose_spec
  ·cases h
 ·rintro ⟨n,b⟩
  have a : ∃ r n,zae T n c s = some r:=⟨r,n,b⟩;rw [dif_pos a];obtain ⟨m,hm⟩:=a.choose_spec;have e:=zkd T (yg n m) _ _ _ b;have d:=zkd T (yh n m) _ _ _ hm;rw [e] at d;exact d.symm
noncomputable def call (T : Nat → Option Entry) : zaz:=zg2 T (exec T)
theorem zGf {α : Type} {a b : Option α} (h : ∀ r,a = some r ↔ b = some r) : a = b:=by
 cases a with
 | none => cases b with
   | none => rfl
   | some y => exact ((h y).2 rfl)
 | some x => exact ((h x).1 rfl).symm
theorem zt8 {T : Nat → Option Entry} {f : Nat} {a : List V} {σ : zd} {r : V × zd} (h : call T f a σ = some r) : ∃ n,zg2 T (zae T n) f a σ = some r:=by
 unfold call zg2 at h;unfold zg2;split at h
 ·split at h
  ·rename_i b
   simp only [if_pos b,ya] at h ⊢;obtain ⟨x,c,e⟩:=h;obtain ⟨n,d⟩:=zdN.1 c;exact ⟨n,x,d,e⟩
  ·cases h
 ·exact ⟨0,h⟩
 ·cases h
theorem zkt (T : Nat → Option Entry) {n m : Nat} (h : n ≤ m) : LeC (zg2 T (zae T n)) (zg2 T (zae T m)):=zmh fun c s => zkd T h c s
theorem zo3 (T : Nat → Option Entry) (n : Nat) : LeC (zg2 T (zae T n)) (call T):=zmh fun _ _ _ a => zdN.2 ⟨n,a⟩
theorem zCr {T : Nat → Option Entry} {r : R} {d : D} {m : Mode} {aS : List V} {v : V} {x : R} (a : zqh (call T) r d m aS v = some x) : ∃ n,zqh (zg2 T (zae T n)) r d m aS v = some x:=by
 unfold zqh at a ⊢;split at a
 ·cases m
  ·simp only [ya] at a ⊢
   obtain ⟨y,⟨aS,g,b⟩,e⟩:=a;obtain ⟨n,f⟩:=zt8 b;exact ⟨n,y,⟨aS,g,f⟩,e⟩
  ·dsimp only at a ⊢
   split at a
   ·cases a
   ·rename_i c
    simp only [if_neg c,yd,ya] at a ⊢;obtain ⟨y,⟨aS,g,b⟩,e⟩:=a;obtain ⟨n,f⟩:=zt8 b;exact ⟨n,y,⟨aS,g,f⟩,e⟩
  ·simp only [yd] at a ⊢
   obtain ⟨y,b,e⟩:=a;obtain ⟨n,f⟩:=zt8 b;exact ⟨n,y,f,e⟩
 ·cases a
theorem ztL {T : Nat → Option Entry} {r : R} {d : D} {o : Op} {x : R} (a : zbM (call T) r d o = some x) : ∃ n,zbM (zg2 T (zae T n)) r d o = some x:=by
 cases o
 case call m f args => exact zCr a
 all_goals exact ⟨0,a⟩
theorem zGF {T : Nat → Option Entry} {r : R} {o : Oper} {x : R} (a : step (call T) r o = some x) : ∃ n,step (zg2 T (zae T n)) r o = some x:=by
 obtain ⟨d,op,g⟩:=o
 cases g with
 | none => exact ztL a
 | some g =>
   obtain ⟨y,b⟩:=g;simp only [step] at a ⊢;generalize r.get y = v at a ⊢;unfold zpW at a ⊢;split at a
   ·split at a
    ·rename_i h
     obtain ⟨n,c⟩:=ztL a;exact ⟨n,by rw [if_pos h]; exact c⟩
    ·rename_i h
     exact ⟨0,by rw [if_neg h]; exact a⟩
   ·exact ⟨0,a⟩
   ·cases a
theorem zl6 {T : Nat → Option Entry} : ∀ (os : List Oper) {r x : R},steps (call T) os r = some x → ∃ n,steps (zg2 T (zae T n)) os r = some x
 | [],_,_,hs => ⟨0,hs⟩
 | o :: os,r,x,hs => by
   simp only [steps,ya] at hs ⊢;obtain ⟨r1,a,c⟩:=hs;obtain ⟨n,b⟩:=zGF a;obtain ⟨m,hm⟩:=zl6 os c;exact ⟨max n m,r1,znX (zkt T (yg n m)) _ _ _ b,zel (zkt T (yh n m)) os _ _ hm⟩
theorem zFB {T : Nat → Option Entry} (ps : List (Nat × Nat)) (os : List Oper) {r x : R} (i : zxf (call T) ps os r = some x) : ∃ n,zxf (zg2 T (zae T n)) ps os r = some x:=by
 unfold zxf at i;rw [ya] at i;obtain ⟨t,l,e⟩:=i;split at e
 ·rename_i d
  injection e with e;subst e;obtain ⟨n,s⟩:=zl6 os l
  have c : ∀ ps : List (Nat × Nat),ps.all (zcc (call T) os r) = true → ∃ m,ps.all (zcc (zg2 T (zae T m)) os r) = true:=by
   intro ps
   induction ps with
   | nil => exact fun _ => ⟨0,rfl⟩
   | cons p ps ih =>
     intro d;simp only [yn,ym] at d;obtain ⟨m,hm⟩:=ih d.2;have f:=d.1;unfold zcc at f;split at f
     ·rename_i v u x o k q
      obtain ⟨a,h⟩:=zl6 _ o;obtain ⟨b,j⟩:=zl6 _ k;refine ⟨max m (max a b),?_⟩;simp only [yn,ym];refine ⟨?_,yf.2 fun p g => zkC (zkt T (yg m _)) _ _ _ (yf.1 hm p g)⟩;unfold zcc;rw [zel (zkt T (by omega : a ≤ max m (max a b))) _ _ _ h,zel (zkt T (by omega : b ≤ max m (max a b))) _ _ _ j,q];exact f
     ·cases f
  obtain ⟨m,hm⟩:=c ps d;refine ⟨max n m,?_⟩;unfold zxf;rw [zel (zkt T (yg n m)) _ _ _ s];simp only [Option.bind_some];rw [if_pos (yf.2 fun p g => zkC (zkt T (yh n m)) _ _ _ (yf.1 hm p g))]
 ·cases e
section eqs
variable (T : Nat → Option Entry) (s : St)
theorem zgL {c : Code} {F : Nat → Option (Ex × St)} {L : Option (Ex × St)} (b : ∀ n,zae T (n + 1) c s = F n) (d : ∀ r,L = some r ↔ ∃ n,F n = some r) : exec T c s = L:=by
 refine zGf fun r => ?_;rw [zdN,d];constructor
 ·rintro ⟨n,a⟩
  cases n with
  | zero => simp [zae] at a
  | succ n => exact ⟨n,by rw [← b]; exact a⟩
 ·rintro ⟨n,a⟩
  exact ⟨n + 1,by rw [b]; exact a⟩
theorem zu6 {β : Type} {c : Code} {G : Nat → Ex × St → Option β} {K : Ex × St → Option β} (e : ∀ x n m,n ≤ m → Le (G n x) (G m x)) (b : ∀ x r,K x = some r ↔ ∃ n,G n x = some r) (r : β) :
  (exec T c s).bind K = some r ↔ ∃ n,(zae T n c s).bind (G n) = some r:=by
 simp only [ya];constructor
 ·rintro ⟨x,a,g⟩
  obtain ⟨n,d⟩:=zdN.1 a;obtain ⟨m,hm⟩:=(b _ _).1 g;exact ⟨max n m,x,zkd T (yg n m) _ _ _ d,e _ _ _ (yh n m) _ hm⟩
 ·rintro ⟨n,x,a,f⟩
  exact ⟨x,zdN.2 ⟨n,a⟩,(b _ _).2 ⟨n,f⟩⟩
theorem zfa {α : Type} {L : Option α} (r : α) : L = some r ↔ ∃ _n : Nat,L = some r:=⟨fun h => ⟨0,h⟩,fun ⟨_,h⟩ => h⟩
theorem ziB : exec T .skip s = some (.normal,s):=zgL T s (fun _ => by rw [zae]) zfa
theorem zto (l : Nat) : exec T (.label l) s = some (.normal,s):=zgL T s (fun _ => by rw [zae]) zfa
theorem zBZ (l : Nat) (a : List Bool) (b : Nat) : exec T (.goto l a b) s = (s.clear a b).map (zIJ (.goto l)):=zgL T s (fun _ => by rw [zae]) zfa
theorem zC4 (l : Nat) (a : List Bool) (b : Nat) : exec T (.exit l a b) s = (s.clear a b).map (zIJ (.exit l)):=zgL T s (fun _ => by rw [zae]) zfa
theorem zFG (a : List Bool) : exec T (.ret a) s = some (.ret,s.mkSt (clr a s.env) s.st):=zgL T s (fun _ => by rw [zae]) zfa
theorem zFw (ops : List Oper) : exec T (.reg ops) s = (steps (call T) ops ⟨[],s.env,s.st,s.base,s.lim⟩).map (zDd s.base s.lim):=by
 refine zgL T s (fun n => by rw [zae]) fun r => ?_;simp only [yd];constructor
 ·rintro ⟨x,a,e⟩
  obtain ⟨n,b⟩:=zl6 ops a;exact ⟨n,x,b,e⟩
 ·rintro ⟨n,x,a,e⟩
  exact ⟨x,zel (zo3 T n) ops _ _ a,e⟩
theorem zn7 (ps : List (Nat × Nat)) (ops : List Oper) : exec T (.regd ps ops) s = (zxf (call T) ps ops ⟨[],s.env,s.st,s.base,s.lim⟩).map (zDd s.base s.lim):=by
 refine zgL T s (fun n => by rw [zae]) fun r => ?_;simp only [yd];constructor
 ·rintro ⟨x,a,e⟩
  obtain ⟨n,b⟩:=zFB ps ops a;exact ⟨n,x,b,e⟩
 ·rintro ⟨n,x,a,e⟩
  exact ⟨x,zv0 (zo3 T n) ps ops _ _ a,e⟩
theorem zCi (sp : Spec) : exec T (.spec sp) s = (zxc sp s).map (zIJ .normal):=zgL T s (fun _ => by rw [zae]) zfa
theorem zdY (a b : Code) : exec T (.seq a b) s = (exec T a s).bind (zsm (exec T b)):=by
 refine zgL T s (fun n => by rw [zae]) fun r => zu6 T s ?_ ?_ r
 ·exact fun x n m c => zw0 (fun s => zkd T c b s) x
 ·rintro ⟨e,d⟩ r
  cases e <;> first | exact zdN | exact zfa r
theorem zr1 (x : X) (a b : Code) : exec T (.cond x a b) s = zuo (exec T a) (exec T b) s ((R.mk [] s.env s.st s.base s.lim).get x):=by
 refine zgL T s (fun n => by rw [zae]) fun r => ?_;generalize (R.mk [] s.env s.st s.base s.lim).get x = v;unfold zuo;split
 ·rename_i t
  cases t <;> exact zdN
 ·exact zfa r
theorem zsS (id : Nat) (body : Code) : exec T (.block id body) s = (exec T body s).map (zwe id):=by
 refine zgL T s (fun n => by rw [zae]) fun r => ?_;simp only [yd];constructor
 ·rintro ⟨x,a,e⟩
  obtain ⟨n,b⟩:=zdN.1 a;exact ⟨n,x,b,e⟩
 ·rintro ⟨n,x,a,e⟩
  exact ⟨x,zdN.2 ⟨n,a⟩,e⟩
theorem zrk (live : List Bool) (a : Nat) (body : Code) : exec T (.loop live a body) s = (exec T body s).bind (zq7 (exec T (.loop live a body)) live a):=by
 refine zgL T s (fun n => by rw [zae]) fun r => zu6 T s ?_ ?_ r
 ·exact fun x n m b => zti (fun s => zkd T b _ s) live a x
 ·rintro ⟨e,f⟩ r
  cases e
  case normal =>
   simp only [zq7,ya];constructor
   ·rintro ⟨x,c,h⟩
    obtain ⟨n,d⟩:=zdN.1 h;exact ⟨n,x,c,d⟩
   ·rintro ⟨n,x,c,h⟩
    exact ⟨x,c,zdN.2 ⟨n,h⟩⟩
  all_goals exact zfa r
theorem zo7 (body : Code) : exec T (.scope body) s = exec T (.sc body body) s :=
 zgL T s (fun n => by rw [zae]) fun _ => zdN
theorem ziN (body cur : Code) : exec T (.sc body cur) s = (exec T cur s).bind (scK (exec T) body):=by
 refine zgL T s (fun n => by rw [zae]) fun r => zu6 T s ?_ ?_ r
 ·exact fun x n m a => zzL (fun c s => zkd T a c s) body x
 ·rintro ⟨e,b⟩ r
  cases e <;> simp only [scK]
  case goto l =>
   split
   ·exact zdN
   ·exact zfa r
  all_goals exact zfa r
end eqs
theorem ze {T : Nat → Option Entry} {f : Nat} {fn : Fun} (h : T f = some (.fn fn)) (args : List V) (σ : zd) : call T f args σ = if args.length = fn.np then (exec T fn.body (enter fn args σ)).bind (leave fn.raw fn.results) else none:=by
 simp only [call,zg2,h]
end Go.A
namespace Go.A
def zEs : Value → Bool
 | .bool _ | .int _ _ | .float _ _ | .complex _ _ _ | .string _ | .nilFunc | .nilIface => true
 | .pointer none | .map none | .slice none 0 0 => true
 | _ => false
abbrev zhv:=Nat → Nat → Prop
mutual
def rep (w : World) (N : zhv) : Fz → Value → Prop
 | .lit v,u => u = v ∧ zEs v = true
 | .sl xs,u => ∃ a c sz,u = .slice a xs.length c ∧ xs.length ≤ c ∧ zcC sz xs ∧ (xs = [] ∨ ∃ b o,a = some ⟨b,o,none⟩ ∧ zgY w N sz xs b o)
def zje (w : World) (N : zhv) : List Fz → Nat → Nat → Prop
 | [],_,_ => True
 | x :: xs,b,o => (∃ u,N b o ∧ w.cell? ⟨b,o,none⟩ = some u ∧ rep w N x u) ∧ zje w N xs b (o + 1)
def zgY (w : World) (N : zhv) : Nat → List (List Fz) → Nat → Nat → Prop
 | _,[],_,_ => True
 | sz,e :: es,b,o => zje w N e b o ∧ zgY w N sz es b (o + sz)
def zcC : Nat → List (List Fz) → Prop
 | _,[] => True
 | sz,e :: es => e.length = sz ∧ zcC sz es
end
def ziE (w w' : World) (N N' : zhv) : Prop:=∀ b o,N b o → N' b o ∧ w'.cell? ⟨b,o,none⟩ = w.cell? ⟨b,o,none⟩
theorem ziE.refl (w : World) (N : zhv) : ziE w w N N:=fun _ _ h => ⟨h,rfl⟩
theorem ziE.trans {w g c : World} {N e d : zhv} (h : ziE w g N e) (f : ziE g c e d) : ziE w c N d:=fun b o a =>
 ⟨(f b o (h b o a).1).1,((f b o (h b o a).1).2).trans (h b o a).2⟩
mutual
theorem zdv {w w' : World} {N e : zhv} (H : ziE w w' N e) : ∀ (x : Fz) (u : Value),rep w N x u → rep w' e x u
 | .lit v,u,h => by simpa only [rep] using h
 | .sl xs,u,h => by
   simp only [rep] at h ⊢;obtain ⟨a,c,sz,f,j,i,d⟩:=h;refine ⟨a,c,sz,f,j,i,?_⟩;rcases d with d | ⟨b,o,d,g⟩
   ·exact .inl d
   ·exact .inr ⟨b,o,d,zpU H sz xs b o g⟩
theorem zgi {w w' : World} {N c : zhv} (H : ziE w w' N c) : ∀ (xs : List Fz) (b o : Nat),zje w N xs b o → zje w' c xs b o
 | [],_,_,_ => by simp only [zje]
 | x :: xs,b,o,h => by
   simp only [zje] at h ⊢;obtain ⟨⟨u,a,f,d⟩,e⟩:=h;exact ⟨⟨u,(H b o a).1,(H b o a).2.trans f,zdv H x u d⟩,zgi H xs b (o + 1) e⟩
theorem zpU {w w' : World} {N a : zhv} (H : ziE w w' N a) : ∀ (sz : Nat) (es : List (List Fz)) (b o : Nat),zgY w N sz es b o → zgY w' a sz es b o
 | _,[],_,_,_ => by simp only [zgY]
 | sz,e :: es,b,o,h => by
   simp only [zgY] at h ⊢;exact ⟨zgi H e b o h.1,zpU H sz es b (o + sz) h.2⟩
end
section
variable {w : World} {N : zhv}
theorem zcz {sz : Nat} : ∀ {es : List (List Fz)},zcC sz es → ∀ {i : Nat} {e : List Fz},es[i]? = some e → e.length = sz
 | [],_,i,e,h => by simp at h
 | x :: xs,hl,i,e,h => by
   simp only [zcC] at hl
   cases i with
   | zero => simp at h; subst h; exact hl.1
   | succ i => exact zcz hl.2 (by simpa using h)
theorem zf0 {sz : Nat} : ∀ {es : List (List Fz)},(∀ e ∈ es,e.length = sz) → zcC sz es
 | [],_ => by simp only [zcC]
 | x :: xs,h => by
   simp only [zcC];exact ⟨h x (by simp),zf0 fun e he => h e (by simp [he])⟩
theorem zgq {sz : Nat} {es : List (List Fz)} (h : zcC sz es) : ∀ e ∈ es,e.length = sz:=fun e he => by
 obtain ⟨i,a⟩:=List.mem_iff_getElem?.1 he;exact zcz h a
theorem zie : ∀ {cs : List Fz} {b o : Nat},zje w N cs b o → ∀ {j : Nat} {x : Fz},cs[j]? = some x → ∃ u,N b (o + j) ∧ w.cell? ⟨b,o + j,none⟩ = some u ∧ rep w N x u
 | [],_,_,_,j,x,h => by simp at h
 | y :: ys,b,o,hr,j,x,h => by
   simp only [zje] at hr
   cases j with
   | zero => simp at h; subst h; exact hr.1
   | succ j =>
     have:=zie hr.2 (j:=j) (x:=x) (by simpa using h)
     rwa [show o + (j + 1) = o + 1 + j from by omega]
theorem zjK : ∀ {cs : List Fz} {b o : Nat},(∀ j x,cs[j]? = some x → ∃ u,N b (o + j) ∧ w.cell? ⟨b,o + j,none⟩ = some u ∧ rep w N x u) → zje w N cs b o
 | [],_,_,_ => by simp only [zje]
 | y :: ys,b,o,h => by
   simp only [zje];refine ⟨by simpa using h 0 y (by simp),zjK fun j x a => ?_⟩;have:=h (j + 1) x (by simpa using a)
   rwa [show o + (j + 1) = o + 1 + j from by omega] at this
theorem zgn {sz : Nat} : ∀ {es : List (List Fz)} {b o : Nat},zgY w N sz es b o → ∀ {i : Nat} {e : List Fz},es[i]? = some e → zje w N e b (o + i * sz)
 | [],_,_,_,i,e,h => by simp at h
 | y :: ys,b,o,hr,i,e,h => by
   simp only [zgY] at hr
   cases i with
   | zero => simp at h; subst h; simpa using hr.1
   | succ i =>
     have:=zgn hr.2 (i:=i) (e:=e) (by simpa using h)
     rwa [show o + (i + 1) * sz = o + sz + i * sz from by rw [yo]; omega]
theorem zhd {sz : Nat} : ∀ {es : List (List Fz)} {b o : Nat},(∀ i e,es[i]? = some e → zje w N e b (o + i * sz)) → zgY w N sz es b o
 | [],_,_,_ => by simp only [zgY]
 | y :: ys,b,o,h => by
   simp only [zgY];refine ⟨by simpa using h 0 y (by simp),zhd fun i e a => ?_⟩;have:=h (i + 1) e (by simpa using a)
   rwa [show o + (i + 1) * sz = o + sz + i * sz from by rw [yo]; omega] at this
end
inductive Ow where
 | no
 | ob (id : Nat)
 | tk (t k : Nat)
structure G where
 ρ : Nat → Nat
 tv : Nat → Nat → Value
 ow : Nat → Ow
 N : zhv
def Ob.shape : Ob → Option (Nat × Nat × Nat)
 | .cells ver sz es => some (ver,sz,es.length)
 | _ => none
def shapeOf (σ : zd) (id : Nat) : Option (Nat × Nat × Nat):=(σ[id]?).bind Ob.shape
def Ob.fr (k : Nat) : Ob → Option Nat
 | .tok _ fr => fr[k]?
 | _ => none
def zpd (σ : zd) (t k : Nat) : Option Nat:=(σ[t]?).bind (Ob.fr k)
def Ob.tsz : Ob → Option Nat
 | .tok sz _ => some sz
 | _ => none
def zqm (σ : zd) (t : Nat) : Option Nat:=(σ[t]?).bind Ob.tsz
def zDz (w : World) (b sz len lo n : Nat) (u : Value) : Prop :=
 ∃ a c,u = .slice a n c ∧ n ≤ c ∧ (len = 0 → c = 0) ∧ (len ≠ 0 → lo + n ≤ len ∧ (c ≠ 0 → a = some ⟨b,lo * sz,none⟩) ∧ ∃ arr t,w.heap[b]? = some (.cells arr t (0,0)) ∧ (lo + c) * sz ≤ arr.size)
mutual
def zK (g : G) (w : World) (σ : zd) : C → Value → Prop
 | .f x,u => rep w g.N x u
 | .ap t k xs,u => rep w g.N (.sl xs) u ∧ ∃ n,zpd σ t k = some n ∧ xs.length ≤ n ∧ (xs.length = n → u = g.tv t k) ∧ ∃ sz,zqm σ t = some sz ∧ zcC sz xs
 | .ptr id ver i off,u => ∃ ver0 sz len,shapeOf σ id = some (ver0,sz,len) ∧ ver ≤ ver0 ∧ (ver = ver0 → u = .pointer (some ⟨g.ρ id,i * sz + off,none⟩)) ∧ ∃ ad,u = .pointer (some ad)
 | .fp cs off,u => ∃ b o,u = .pointer (some ⟨b,o + off,none⟩) ∧ zje w g.N cs b o
 | .own id ver lo n,u => ∃ ver0 sz len,shapeOf σ id = some (ver0,sz,len) ∧ ver ≤ ver0 ∧ (ver = ver0 → zDz w (g.ρ id) sz len lo n u) ∧ ∃ ad c,u = .slice ad n c
 | .map id,u => (∃ es,σ[id]? = some (.mp es)) ∧ u = .map (some (g.ρ id))
 | .fn f first caps,u => ∃ fs cs,u = .func (.func f) fs cs ∧ zC g w σ first fs.toList ∧ zC g w σ caps cs.toList
 | .un,_ => True
def zC (g : G) (w : World) (σ : zd) : List C → List Value → Prop
 | [],us => us = []
 | c :: cs,us => ∃ v vs,us = v :: vs ∧ zK g w σ c v ∧ zC g w σ cs vs
end
mutual
def zh (g : G) (w : World) (σ : zd) : V → Value → Prop
 | .one c,u => zK g w σ c u
 | .agg cs,u => ∃ us,u = .agg us ∧ zC g w σ cs us.toList
 | .tup vs,u => ∃ us,u = .tuple us ∧ zW g w σ vs us.toList
def zW (g : G) (w : World) (σ : zd) : List V → List Value → Prop
 | [],us => us = []
 | v :: vs,us => ∃ x xs,us = x :: xs ∧ zh g w σ v x ∧ zW g w σ vs xs
end
structure Ext (g : G) (w : World) (σ : zd) (g' : G) (w' : World) (σ' : zd) : Prop where
 os : w'.os = w.os
 tape : w'.tape = w.tape
 output : w'.output = w.output
 size : w.heap.size ≤ w'.heap.size
 keeps : ziE w w' g.N g'.N
 len : σ.length ≤ σ'.length
 shape : ∀ id ver sz len,shapeOf σ id = some (ver,sz,len) →
  (shapeOf σ' id = some (ver,sz,len) ∧ g'.ρ id = g.ρ id ∧ (len ≠ 0 → ∀ arr t,w.heap[g.ρ id]? = some (.cells arr t (0,0)) → ∃ arr',w'.heap[g.ρ id]? = some (.cells arr' t (0,0)) ∧ arr'.size = arr.size)) ∨
  ∃ ver1 len1,shapeOf σ' id = some (ver1,sz,len1) ∧ ver < ver1
 map : ∀ id es,σ[id]? = some (.mp es) → g'.ρ id = g.ρ id ∧ ∃ es',σ'[id]? = some (.mp es')
 tok : ∀ t k n,zpd σ t k = some n → ∃ n',zpd σ' t k = some n' ∧ n ≤ n' ∧ (n = n' → g'.tv t k = g.tv t k)
 tsz : ∀ t sz,zqm σ t = some sz → zqm σ' t = some sz
 ow : ∀ b,b < w.heap.size → g'.ow b = g.ow b
 new : ∀ b o,g'.N b o → b < w.heap.size → g.ow b = .no → g.N b o
 frame : ∀ b,b < w.heap.size → g.ow b = .no → w'.heap[b]? = w.heap[b]?
theorem Ext.refl (g : G) (w : World) (σ : zd) : Ext g w σ g w σ where
 os:=rfl
 tape:=rfl
 output:=rfl
 size:=yk _
 keeps:=ziE.refl _ _
 len:=yk _
 shape:=fun id a sz len h => .inl ⟨h,rfl,fun _ arr t b => ⟨arr,b,rfl⟩⟩
 map:=fun id es h => ⟨rfl,es,h⟩
 tok:=fun t k n h => ⟨n,h,yk _,fun _ => rfl⟩
 tsz:=fun _ _ h => h
 ow:=fun _ _ => rfl
 new:=fun _ _ h _ _ => h
 frame:=fun _ _ _ => rfl
theorem Ext.trans {g B A : G} {w y C : World} {σ σ1 σ2 : zd} (h : Ext g w σ B y σ1) (k : Ext B y σ1 A C σ2) : Ext g w σ A C σ2 where
 os:=k.os.trans h.os
 tape:=k.tape.trans h.tape
 output:=k.output.trans h.output
 size:=yl h.size k.size
 keeps:=h.keeps.trans k.keeps
 len:=yl h.len k.len
 shape:=fun id l sz len N => by
  rcases h.shape id l sz len N with ⟨a,b,c⟩ | ⟨v1,q,a,b⟩
  ·rcases k.shape id l sz len a with ⟨d,i,x⟩ | ⟨v1,q,d,i⟩
   ·refine .inl ⟨d,i.trans b,fun D arr t E => ?_⟩
    obtain ⟨j,M,I⟩:=c D arr t E;obtain ⟨p,J,K⟩:=x D j t (by rw [b]; exact M);exact ⟨p,by rw [← b]; exact J,K.trans I⟩
   ·exact .inr ⟨v1,q,d,i⟩
  ·rcases k.shape id v1 sz q a with ⟨d,_⟩ | ⟨v2,H,d,i⟩
   ·exact .inr ⟨v1,q,d,b⟩
   ·exact .inr ⟨v2,H,d,Nat.lt_trans b i⟩
 map:=fun id es hm => by
  obtain ⟨a,v,b⟩:=h.map id es hm;obtain ⟨d,s,i⟩:=k.map id v b;exact ⟨d.trans a,s,i⟩
 tok:=fun t z n u => by
  obtain ⟨r,a,b,c⟩:=h.tok t z n u;obtain ⟨n2,d,i,x⟩:=k.tok t z r a
  exact ⟨n2,d,yl b i,fun e => by
   have e1 : n = r:=(by omega);have e2 : r = n2:=by omega
   exact (x e2).trans (c e1)⟩
 tsz:=fun t sz L => k.tsz t sz (h.tsz t sz L)
 ow:=fun b f => (k.ow b (yi f h.size)).trans (h.ow b f)
 new:=fun b o u f m => h.new b o (k.new b o u (yi f h.size) ((h.ow b f).trans m)) f m
 frame:=fun b f m => (k.frame b (yi f h.size) ((h.ow b f).trans m)).trans (h.frame b f m)
mutual
theorem Ext.zK {g g' : G} {w w' : World} {σ σ' : zd} (H : Ext g w σ g' w' σ') : ∀ (c : C) (u : Value),zK g w σ c u → Go.A.zK g' w' σ' c u
 | .f x,u,h => by
   simp only [Go.A.zK] at h ⊢;exact zdv H.keeps x u h
 | .ap t k xs,u,h => by
   simp only [Go.A.zK] at h ⊢;obtain ⟨j,n,d,m,l,sz,v,y⟩:=h;obtain ⟨r,a,b,c⟩:=H.tok t k n d;refine ⟨zdv H.keeps _ u j,r,a,by omega,fun e => ?_,sz,H.tsz t sz v,y⟩;have e1 : n = r:=(by omega);rw [c e1];exact l (by omega)
 | .ptr id ver i off,u,h => by
   simp only [Go.A.zK] at h ⊢;obtain ⟨v0,sz,len,j,d,m,l⟩:=h;rcases H.shape id v0 sz len j with ⟨a,b,_⟩ | ⟨v1,q,a,b⟩
   ·exact ⟨v0,sz,len,a,d,by rw [b]; exact m,l⟩
   ·exact ⟨v1,sz,q,a,by omega,fun e => by omega,l⟩
 | .fp cs off,u,h => by
   simp only [Go.A.zK] at h ⊢;obtain ⟨b,o,j,d⟩:=h;exact ⟨b,o,j,zgi H.keeps cs b o d⟩
 | .own id ver lo n,u,h => by
   simp only [Go.A.zK] at h ⊢;obtain ⟨v0,sz,len,j,d,m,l⟩:=h;rcases H.shape id v0 sz len j with ⟨a,b,c⟩ | ⟨v1,q,a,b⟩
   ·refine ⟨v0,sz,len,a,d,fun e => ?_,l⟩
    obtain ⟨ad,cp,e1,e2,e3,e4⟩:=m e;refine ⟨ad,cp,e1,e2,e3,fun s => ?_⟩;obtain ⟨f1,f2,arr,t,f3,f4⟩:=e4 s;obtain ⟨p,B,z⟩:=c s arr t f3;exact ⟨f1,by rw [b]; exact f2,p,t,by rw [b]; exact B,by rw [z]; exact f4⟩
   ·exact ⟨v1,sz,q,a,by omega,fun e => by omega,l⟩
 | .map id,u,h => by
   simp only [Go.A.zK] at h ⊢;obtain ⟨⟨es,j⟩,d⟩:=h;obtain ⟨a,es',b⟩:=H.map id es j;exact ⟨⟨es',b⟩,by rw [a]; exact d⟩
 | .fn f a b,u,h => by
   simp only [Go.A.zK] at h ⊢;obtain ⟨fs,cs,j,d,m⟩:=h;exact ⟨fs,cs,j,Ext.zC H a _ d,Ext.zC H b _ m⟩
 | .un,_,_ => by simp only [Go.A.zK]
theorem Ext.zC {g g' : G} {w w' : World} {σ σ' : zd} (H : Ext g w σ g' w' σ') : ∀ (cs : List C) (us : List Value),zC g w σ cs us → Go.A.zC g' w' σ' cs us
 | [],us,h => by simpa only [Go.A.zC] using h
 | c :: cs,us,h => by
   simp only [Go.A.zC] at h ⊢;obtain ⟨v,vs,a,d,b⟩:=h;exact ⟨v,vs,a,Ext.zK H c v d,Ext.zC H cs vs b⟩
end
mutual
theorem Ext.zh {g g' : G} {w w' : World} {σ σ' : zd} (H : Ext g w σ g' w' σ') : ∀ (c : V) (u : Value),zh g w σ c u → Go.A.zh g' w' σ' c u
 | .one c,u,h => by
   simp only [Go.A.zh] at h ⊢;exact H.zK c u h
 | .agg cs,u,h => by
   simp only [Go.A.zh] at h ⊢;obtain ⟨us,a,b⟩:=h;exact ⟨us,a,H.zC cs _ b⟩
 | .tup vs,u,h => by
   simp only [Go.A.zh] at h ⊢;obtain ⟨us,a,b⟩:=h;exact ⟨us,a,Ext.zW H vs _ b⟩
theorem Ext.zW {g g' : G} {w w' : World} {σ σ' : zd} (H : Ext g w σ g' w' σ') : ∀ (cs : List V) (us : List Value),zW g w σ cs us → Go.A.zW g' w' σ' cs us
 | [],us,h => by simpa only [Go.A.zW] using h
 | c :: cs,us,h => by
   simp only [Go.A.zW] at h ⊢;obtain ⟨v,vs,a,d,b⟩:=h;exact ⟨v,vs,a,Ext.zh H c v d,Ext.zW H cs vs b⟩
end
def zqR (g : G) (w : World) (σ : zd) : List (Int × V) → List MapEntry → Prop
 | [],es => es = []
 | x :: xs,es => ∃ e rest,es = e :: rest ∧ e.key = .int .i64 x.1 ∧ zh g w σ x.2 e.val ∧ zqR g w σ xs rest
def znG (g : G) (w : World) (σ : zd) (es : List (Int × V)) (z8 : List MapEntry) (clock : Nat) : Prop :=
 (∃ es',es'.Perm es ∧ (es'.map (·.1)).Nodup ∧ zqR g w σ es' z8) ∧ (z8.map (·.born)).Nodup ∧ ∀ e ∈ z8,e.born < clock
def zeg (g : G) (w : World) (σ : zd) (arr : Array Value) (sz : Nat) (es : List (List C)) : Prop :=
 ∀ i e,es[i]? = some e → e.length = sz ∧ ∀ j c,e[j]? = some c → ∃ u,arr[i * sz + j]? = some u ∧ zK g w σ c u ∧ u.oneCell' = true
def zET (g : G) (w : World) (σ : zd) (id : Nat) : Ob → Prop
 | .cells _ sz es => es ≠ [] → g.ow (g.ρ id) = .ob id ∧ (∀ o,¬ g.N (g.ρ id) o) ∧ ∃ arr t,w.heap[g.ρ id]? = some (.cells arr t (0,0)) ∧ es.length * sz ≤ arr.size ∧ zeg g w σ arr sz es
 | .mp es => g.ow (g.ρ id) = .ob id ∧ (∀ o,¬ g.N (g.ρ id) o) ∧ ∃ z8 clock,w.heap[g.ρ id]? = some (.map z8 clock) ∧ znG g w σ es z8.toList clock
 | .tok sz fr => ∀ k n,fr[k]? = some n → (n = 0 ∧ ∃ a,g.tv id k = .slice a 0 0) ∨
  ∃ b o c arr t,g.tv id k = .slice (some ⟨b,o,none⟩) n c ∧ 0 < c ∧ n ≤ c ∧ g.ow b = .tk id k ∧ w.heap[b]? = some (.cells arr t (0,0)) ∧ o + c * sz ≤ arr.size ∧ ∀ o',g.N b o' → o' < o + n * sz
structure Rel (g : G) (w : World) (σ : zd) : Prop where
 nb : ∀ b o,g.N b o → b < w.heap.size
 ob : ∀ id o,σ[id]? = some o → zET g w σ id o
theorem Ext.zeg {g g' : G} {w w' : World} {σ σ' : zd} (H : Ext g w σ g' w' σ') {arr : Array Value} {sz : Nat} {es : List (List C)} (h : zeg g w σ arr sz es) : Go.A.zeg g' w' σ' arr sz es :=
 fun i e d => ⟨(h i e d).1,fun j c f => by
  obtain ⟨u,a,b,c1⟩:=(h i e d).2 j c f
  exact ⟨u,a,H.zK c u b,c1⟩⟩
theorem Ext.zqR {g g' : G} {w w' : World} {σ σ' : zd} (H : Ext g w σ g' w' σ') : ∀ {es : List (Int × V)} {z8 : List MapEntry},zqR g w σ es z8 → Go.A.zqR g' w' σ' es z8
 | [],_,h => h
 | x :: xs,_,h => by
   obtain ⟨e,rest,a,d,b,c⟩:=h;exact ⟨e,rest,a,d,H.zh _ _ b,Ext.zqR H c⟩
theorem zz4 {g : G} {w : World} {σ : zd} {es a : List (Int × V)} {z8 : List MapEntry} {clock : Nat} (h : es.Perm a) (hm : znG g w σ es z8 clock) : znG g w σ a z8 clock:=by
 obtain ⟨⟨es',b,e,c⟩,d⟩:=hm;exact ⟨⟨es',b.trans h,e,c⟩,d⟩
theorem zqC {g g' : G} {w w' : World} {σ σ' : zd} {es : List (Int × V)} {z8 : List MapEntry} {clock : Nat} (h : znG g w σ es z8 clock) (f : Int × V → Int × V) (d : ∀ e,(f e).1 = e.1) (k : ∀ es',es'.Perm es → Go.A.zqR g w σ es' z8 → Go.A.zqR g' w' σ' (es'.map f) z8) : Go.A.znG g' w' σ' (es.map f) z8 clock:=by
 obtain ⟨⟨es',a,i,b⟩,c⟩:=h;refine ⟨⟨es'.map f,a.map f,?_,k es' a b⟩,c⟩
 have e : (es'.map f).map (·.1) = es'.map (·.1):=by
  rw [List.map_map];exact List.map_congr_left fun e _ => d e
 rw [e];exact i
theorem Ext.znG {g g' : G} {w w' : World} {σ σ' : zd} (H : Ext g w σ g' w' σ') {es : List (Int × V)} {z8 : List MapEntry} {clock : Nat} (h : znG g w σ es z8 clock) : Go.A.znG g' w' σ' es z8 clock:=by
 have:=zqC (g':=g') (w':=w') (σ':=σ') h id (fun _ => rfl) (fun es' _ h => by rw [yp]; exact H.zqR h)
 rwa [yp] at this
end Go.A
namespace Go.A
def zxe {α : Type} (f : Nat → α) (k : Nat) (v : α) : Nat → α:=fun i => if i = k then v else f i
@[simp] theorem ze1 {α : Type} (f : Nat → α) (k : Nat) (v : α) : zxe f k v k = v:=by simp [zxe]
theorem zaC {α : Type} (f : Nat → α) {k i : Nat} (v : α) (h : i ≠ k) : zxe f k v i = f i:=by simp [zxe,h]
theorem zbs {σ : zd} {id a sz len : Nat} (h : shapeOf σ id = some (a,sz,len)) : ∃ es,σ[id]? = some (.cells a sz es) ∧ es.length = len:=by
 unfold shapeOf at h
 cases b : σ[id]? with
 | none => simp [b] at h
 | some o =>
   cases o with
   | cells v s es => simp [b,Ob.shape] at h; exact ⟨es,by simp [h],h.2.2⟩
   | tok s fr => simp [b,Ob.shape] at h
   | mp es => simp [b,Ob.shape] at h
theorem zG {σ : zd} {id a sz : Nat} {es : List (List C)} (h : σ[id]? = some (.cells a sz es)) : shapeOf σ id = some (a,sz,es.length):=by simp [shapeOf,h,Ob.shape]
theorem zee {σ : zd} {t k n : Nat} (h : zpd σ t k = some n) : ∃ sz fr,σ[t]? = some (.tok sz fr) ∧ fr[k]? = some n:=by
 unfold zpd at h
 cases a : σ[t]? with
 | none => simp [a] at h
 | some o =>
   cases o with
   | cells v s es => simp [a,Ob.fr] at h
   | tok s fr => simp [a,Ob.fr] at h; exact ⟨s,fr,rfl,h⟩
   | mp es => simp [a,Ob.fr] at h
theorem zfr {σ : zd} {t k n sz : Nat} {fr : List Nat} (h : σ[t]? = some (.tok sz fr)) (a : fr[k]? = some n) : zpd σ t k = some n:=by simp [zpd,h,Ob.fr,a]
theorem zgs {σ : zd} {t sz : Nat} (h : zqm σ t = some sz) : ∃ fr,σ[t]? = some (.tok sz fr):=by
 unfold zqm at h
 cases a : σ[t]? with
 | none => simp [a] at h
 | some o =>
   cases o with
   | cells v s es => simp [a,Ob.tsz] at h
   | tok s fr => simp [a,Ob.tsz] at h; exact ⟨fr,by rw [h]⟩
   | mp es => simp [a,Ob.tsz] at h
theorem zdy {σ : zd} {t sz : Nat} {fr : List Nat} (h : σ[t]? = some (.tok sz fr)) : zqm σ t = some sz:=by simp [zqm,h,Ob.tsz]
theorem zb {α : Type} {l : List α} {i : Nat} {x : α} (h : l[i]? = some x) : i < l.length:=(List.getElem?_eq_some_iff.1 h).1
section
variable {g g' : G} {w w' : World} {σ σ' : zd}
def zwJ (g : G) (w : World) (g' : G) (w' : World) (b : Nat) : Prop:=w'.heap[b]? = w.heap[b]? ∧ g'.ow b = g.ow b ∧ ∀ o,g'.N b o → g.N b o
theorem zdb (H : Ext g w σ g' w' σ') {id : Nat} {o : Ob} (x : g'.ρ id = g.ρ id) (B : ∀ k,g'.tv id k = g.tv id k)
  (q : ∀ b,b < w.heap.size → g.ow b = .ob id ∨ (∃ k,g.ow b = .tk id k) → zwJ g w g' w' b) (h : zET g w σ id o) : zET g' w' σ' id o:=by
 cases o with
 | cells ver sz es =>
   intro u;obtain ⟨e,l,arr,t,d,f,p⟩:=h u;have a : g.ρ id < w.heap.size:=(yb.1 d).1;obtain ⟨j,m,i⟩:=q _ a (.inl e);rw [x];exact ⟨m.trans e,fun o r => l o (i o r),arr,t,j.trans d,f,H.zeg p⟩
 | mp es =>
   obtain ⟨e,l,z8,clock,d,f⟩:=h;have a : g.ρ id < w.heap.size:=(yb.1 d).1;obtain ⟨j,m,i⟩:=q _ a (.inl e);unfold zET;rw [x];exact ⟨m.trans e,fun o r => l o (i o r),z8,clock,j.trans d,H.znG f⟩
 | tok sz fr =>
   intro k n A;rw [B];rcases h k n A with h | ⟨b,o,c,arr,t,e,l,d,f,p,z,y⟩
   ·exact .inl h
   ·have a : b < w.heap.size:=(yb.1 p).1
    obtain ⟨j,m,i⟩:=q _ a (.inr ⟨k,f⟩);exact .inr ⟨b,o,c,arr,t,e,l,d,m.trans f,j.trans p,z,fun v s => y v (i v s)⟩
theorem heap_alloc_old (w : World) (o : Obj) {b : Nat} (h : b < w.heap.size) : (w.alloc o).heap[b]? = w.heap[b]?:=by
 show (w.heap.push o)[b]? = _
 rw [Array.getElem?_push,if_neg (by omega)]
theorem zaZ (w : World) (o : Obj) : (w.alloc o).heap[w.heap.size]? = some o:=by
 show (w.heap.push o)[w.heap.size]? = _
 simp
theorem zsC (w : World) (o : Obj) {b i : Nat} (h : b < w.heap.size) : (w.alloc o).cell? ⟨b,i,none⟩ = w.cell? ⟨b,i,none⟩:=by
 unfold World.cell?;rw [heap_alloc_old w o h]
theorem size_alloc (w : World) (o : Obj) : (w.alloc o).heap.size = w.heap.size + 1:=World.size_alloc w o
theorem Ext.alloc (R : Rel g w σ) (o : Obj) (g' : G) (e : ∀ id,id < σ.length → g'.ρ id = g.ρ id) (p : ∀ t k n,zpd σ t k = some n → g'.tv t k = g.tv t k) (hw : ∀ b,b < w.heap.size → g'.ow b = g.ow b)
  (f : ∀ b o,b < w.heap.size → (g'.N b o ↔ g.N b o)) (os : List Ob) : Ext g w σ g' (w.alloc o) (σ ++ os) where
 os:=rfl
 tape:=rfl
 output:=rfl
 size:=by rw [size_alloc]; omega
 keeps:=fun b i h => ⟨(f b i (R.nb b i h)).2 h,zsC w o (R.nb b i h)⟩
 len:=by simp
 shape:=fun id m sz len h => by
  obtain ⟨es,a,l⟩:=zbs h;have c:=zb a;refine .inl ⟨by unfold shapeOf; rw [yc c]; exact h,e id c,fun _ arr t j => ⟨arr,?_,rfl⟩⟩;rw [heap_alloc_old w o (yb.1 j).1];exact j
 map:=fun id es h => ⟨e id (zb h),es,by rw [yc (zb h)]; exact h⟩
 tok:=fun t k n h => by
  obtain ⟨sz,fr,a,l⟩:=zee h;exact ⟨n,zfr (by rw [yc (zb a)]; exact a) l,yk _,fun _ => p t k n h⟩
 tsz:=fun t sz h => by
  obtain ⟨fr,a⟩:=zgs h;exact zdy (fr:=fr) (by rw [yc (zb a)]; exact a)
 ow:=hw
 new:=fun b i h d _ => (f b i d).1 h
 frame:=fun b d _ => heap_alloc_old w o d
def G.freeze (g : G) (b : Nat) : G:={ g with N:=fun b' o => g.N b' o ∨ b' = b }
theorem zvK (R : Rel g w σ) (o : Obj) : Ext g w σ (g.freeze w.heap.size) (w.alloc o) σ ∧ Rel (g.freeze w.heap.size) (w.alloc o) σ:=by
 have c : ∀ b i,b < w.heap.size → ((g.freeze w.heap.size).N b i ↔ g.N b i):=fun b i a =>
  ⟨fun h => h.elim id (fun e => by omega),.inl⟩
 have H : Ext g w σ (g.freeze w.heap.size) (w.alloc o) σ:=by
  have:=Ext.alloc R o (g.freeze w.heap.size) (fun _ _ => rfl) (fun _ _ _ _ => rfl) (fun _ _ => rfl) c [];simpa using this
 refine ⟨H,⟨fun b i h => ?_,fun id ob h => zdb H rfl (fun _ => rfl) (fun b a _ => ⟨heap_alloc_old w o a,rfl,fun i => (c b i a).1⟩) (R.ob id ob h)⟩⟩;rw [size_alloc];rcases h with h | h
 ·have:=R.nb b i h; omega
 ·omega
def G.own (g : G) (id b : Nat) : G:={ g with ρ:=zxe g.ρ id b,ow:=zxe g.ow b (.ob id) }
theorem zw5 (R : Rel g w σ) (ob : Ob) (o : Obj) (c : ∀ {g' : G} {σ' : zd},Ext g w σ g' (w.alloc o) σ' → g'.ρ σ.length = w.heap.size → g'.ow w.heap.size = .ob σ.length → (∀ i,¬ g'.N w.heap.size i) → zET g' (w.alloc o) σ' σ.length ob) :
  Ext g w σ (g.own σ.length w.heap.size) (w.alloc o) (σ ++ [ob]) ∧ Rel (g.own σ.length w.heap.size) (w.alloc o) (σ ++ [ob]):=by
 have H : Ext g w σ (g.own σ.length w.heap.size) (w.alloc o) (σ ++ [ob]) :=
  Ext.alloc R o (g.own σ.length w.heap.size) (fun id h => zaC g.ρ (k:=σ.length) (i:=id) _ (by omega)) (fun _ _ _ _ => rfl) (fun b h => zaC g.ow (k:=w.heap.size) (i:=b) _ (by omega)) (fun _ _ _ => Iff.rfl) [ob]
 refine ⟨H,⟨fun b i h => by rw [size_alloc]; have:=R.nb b i h; omega,fun id x h => ?_⟩⟩
 by_cases a : id < σ.length
 ·rw [yc a] at h
  exact zdb H (zaC g.ρ (k:=σ.length) (i:=id) _ (by omega)) (fun _ => rfl) (fun b e _ => ⟨heap_alloc_old w o e,zaC g.ow (k:=w.heap.size) (i:=b) _ (by omega),fun _ h => h⟩) (R.ob id x h)
 ·have d : id = σ.length:=by
   have:=zb h;simp at this;omega
  subst d;simp at h;subst h;exact c H (by simp [G.own]) (by simp [G.own]) (fun i f => by have:=R.nb _ i f; omega)
theorem zyz {id j : Nat} {new : Ob} (σ : zd) : (σ.set id new)[j]? = if id = j ∧ id < σ.length then some new else σ[j]?:=by
 rw [List.getElem?_set]
 by_cases h : id = j
 ·subst h
  by_cases a : id < σ.length
  ·simp [a]
  ·simp [a,List.getElem?_eq_none (Nat.le_of_not_lt a)]
 ·simp [h]
theorem zvL {id j : Nat} {new : Ob} (h : j ≠ id) : shapeOf (σ.set id new) j = shapeOf σ j:=by
 unfold shapeOf;rw [ye (Ne.symm h)]
theorem zD2 {id j k : Nat} {new : Ob} (h : j ≠ id) : zpd (σ.set id new) j k = zpd σ j k:=by
 unfold zpd;rw [ye (Ne.symm h)]
theorem zI {id : Nat} {a new : Ob} (h : σ[id]? = some a) : (σ.set id new)[id]? = some new:=by
 rw [zyz];simp [zb h]
theorem replace {id : Nat} {A new : Ob} (R : Rel g w σ) (l : σ[id]? = some A) (q : Nat → Prop)
  (O : w'.os = w.os) (v : w'.tape = w.tape) (B : w'.output = w.output) (u : w.heap.size ≤ w'.heap.size)
  (i : ∀ b,b < w.heap.size → ¬ q b → zwJ g w g' w' b)
  (f : ∀ b,q b → (g.ow b = .ob id ∨ ∃ k,g.ow b = .tk id k) ∧ g'.ow b = g.ow b ∧ ∀ o,g.N b o → g'.N b o ∧ w'.cell? ⟨b,o,none⟩ = w.cell? ⟨b,o,none⟩)
  (V : ∀ b o,¬ q b → g.N b o → g'.N b o)
  (I : ∀ j,j ≠ id → g'.ρ j = g.ρ j) (D : ∀ j k,j ≠ id → g'.tv j k = g.tv j k)
  (M : ∀ b o,g'.N b o → b < w'.heap.size)
  (p : ∀ ver sz len,shapeOf σ id = some (ver,sz,len) →
   (shapeOf (σ.set id new) id = some (ver,sz,len) ∧ g'.ρ id = g.ρ id ∧ (len ≠ 0 → ∀ arr t,w.heap[g.ρ id]? = some (.cells arr t (0,0)) → ∃ arr',w'.heap[g.ρ id]? = some (.cells arr' t (0,0)) ∧ arr'.size = arr.size)) ∨
   ∃ ver1 len1,shapeOf (σ.set id new) id = some (ver1,sz,len1) ∧ ver < ver1)
  (C : ∀ es,A = .mp es → g'.ρ id = g.ρ id ∧ ∃ es',new = .mp es')
  (E : ∀ k n,zpd σ id k = some n → ∃ n',zpd (σ.set id new) id k = some n' ∧ n ≤ n' ∧ (n = n' → g'.tv id k = g.tv id k))
  (G : ∀ sz fr,A = .tok sz fr → ∃ fr',new = .tok sz fr')
  (s : Ext g w σ g' w' (σ.set id new) → zET g' w' (σ.set id new) id new) :
  Ext g w σ g' w' (σ.set id new) ∧ Rel g' w' (σ.set id new):=by
 have r : ∀ b o,b < w.heap.size → ¬ q b → w'.cell? ⟨b,o,none⟩ = w.cell? ⟨b,o,none⟩:=fun b o m c => by
  unfold World.cell?;rw [(i b m c).1]
 have y : ziE w w' g.N g'.N:=fun b o h => by
  by_cases c : q b
  ·exact (f b c).2.2 o h
  ·exact ⟨V b o c h,r b o (R.nb b o h) c⟩
 have H : Ext g w σ g' w' (σ.set id new):={
  os:=O
  tape:=v
  output:=B
  size:=u
  keeps:=y
  len:=by simp
  shape:=fun j ver sz len d => by
   by_cases e : j = id
   ·subst e; exact p ver sz len d
   ·refine .inl ⟨by rw [zvL e]; exact d,I j e,fun X arr t W => ⟨arr,?_,rfl⟩⟩
    obtain ⟨es,z,K⟩:=zbs d;have Q : es ≠ []:=fun h => by subst h; exact X K.symm
    obtain ⟨S,_,arr',Y,U,_⟩:=R.ob j _ z Q;have P : g.ρ j < w.heap.size:=(yb.1 U).1
    have c : ¬ q (g.ρ j):=fun c => by
     rcases (f _ c).1 with h | ⟨k,h⟩
     ·rw [S] at h; injection h with h; exact e h
     ·rw [S] at h; cases h
    rw [(i _ P c).1]; exact W
  map:=fun j es d => by
   by_cases e : j = id
   ·subst e
    obtain ⟨a,es',b⟩:=C es (by rw [l] at d; injection d);exact ⟨a,es',by rw [zI l,b]⟩
   ·exact ⟨I j e,es,by rw [ye (Ne.symm e)]; exact d⟩
  tok:=fun j k n d => by
   by_cases e : j = id
   ·subst e; exact E k n d
   ·exact ⟨n,by rw [zD2 e]; exact d,yk _,fun _ => D j k e⟩
  tsz:=fun j sz d => by
   obtain ⟨fr,z⟩:=zgs d
   by_cases e : j = id
   ·subst e
    rw [l] at z;injection z with z;obtain ⟨fr',K⟩:=G sz fr z;exact zdy (fr:=fr') (by rw [zI l,K])
   ·exact zdy (fr:=fr) (by rw [ye (Ne.symm e)]; exact z)
  ow:=fun b m => by
   by_cases c : q b
   ·exact (f b c).2.1
   ·exact (i b m c).2.1
  new:=fun b o h m J => by
   by_cases c : q b
   ·rcases (f b c).1 with h | ⟨k,h⟩ <;> rw [J] at h <;> cases h
   ·exact (i b m c).2.2 o h
  frame:=fun b m J => by
   by_cases c : q b
   ·rcases (f b c).1 with h | ⟨k,h⟩ <;> rw [J] at h <;> cases h
   ·exact (i b m c).1 }
 refine ⟨H,⟨M,fun j x d => ?_⟩⟩
 by_cases e : j = id
 ·subst e
  rw [zI l] at d;injection d with d;subst d;exact s H
 ·rw [ye (Ne.symm e)] at d
  refine zdb H (I j e) (fun k => D j k e) (fun b m L => i b m fun c => ?_) (R.ob j x d)
  rcases (f b c).1 with h | ⟨k,h⟩ <;> rcases L with h' | ⟨k',h'⟩ <;> rw [h] at h'
  ·injection h' with h'; exact e h'.symm
  ·cases h'
  ·cases h'
  ·injection h' with h'; exact e h'.symm
end
end Go.A
