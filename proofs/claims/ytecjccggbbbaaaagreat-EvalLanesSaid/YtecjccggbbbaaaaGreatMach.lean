/- The abstract machine A: what the loaded code does, on values without memory, and a small store for what a call itself changes. -/
import GoSem.Core.View
set_option linter.unusedVariables false
set_option linter.unusedSimpArgs false
namespace Go.A

/-- Frozen data: one cell. -/
inductive Fz where
  | lit (v : Value)
  | sl (xs : List (List Fz))
  deriving Inhabited

/-- One cell. 'ap': a slice by value, with a ticket (whoever has the last one may append); 'fp': a pointer into frozen data; 'own': a slice of a row of the store. -/
inductive C where
  | f (x : Fz)
  | ap (tok k : Nat) (xs : List (List Fz))
  | ptr (id ver i off : Nat)
  | fp (cs : List Fz) (off : Nat)
  | own (id ver lo n : Nat)
  | map (id : Nat)
  | fn (f : Nat) (first caps : List C)
  | un
  deriving Inhabited

/-- A temporary's value. -/
inductive V where
  | one (c : C)
  | agg (cs : List C)
  | tup (vs : List V)
  deriving Inhabited

inductive Ob where
  | cells (ver sz : Nat) (es : List (List C))
  | tok (sz : Nat) (fr : List Nat)
  | mp (es : List (Int × V))
  deriving Inhabited

abbrev Store := List Ob

/-- An operand: 'l d': the result d places ahead in the region; 's t': a slot. -/
inductive X where
  | l (d : Nat)
  | s (t : Nat)
  | c (v : V)

inductive Mode where
  | cl
  | ck
  | op

inductive B where
  | fz
  | tk
  | rw

inductive Op where
  | mv (x : X)
  | pick (c a b : X)
  | bin (op : BinOp) (x y : X)
  | eqa (n : Nat) (neg : Bool) (x y : X)
  | beq (neg : Bool) (x y : X)
  | pnil (neg : Bool) (x : X)
  | un (op : UnOp) (x : X)
  | conv (k : IntKind) (x : X)
  | len (x : X)
  | lens (x : X)
  | fa (off : Nat) (x : X)
  | ia (sz : Nat) (x i : X)
  | iaa (n sz : Nat) (x i : X)
  | ld (sz : Option Nat) (x : X)
  | st (sz : Nat) (x v : X)
  | al (zero : List C) (fresh : List (Nat × Nat))
  | box (sz : Nat) (x : X)
  | bld (zero : List C) (parts : List (Nat × Nat × X)) (fresh : List (Nat × Nat))
  | bsl (b : B) (sz : Nat) (zero : List (List C)) (parts : List (Nat × X))
  | nl (b : B) (sz : Nat)
  | app (sz : Nat) (s x : X)
  | cpy (sz : Nat) (x y : X)
  | mks (zero : List C) (fresh : Option (Nat × Nat)) (n : X)
  | mkc (sz : Nat) (n : X)
  | mkr (zero : List C) (j sz : Nat) (n : X)
  | slc (sz : Nat) (x : X) (lo hi mx : Option X)
  | slcs (x : X) (lo hi : Option X)
  | nlc (b : B) (sz : Nat) (x : X)
  | ext (x : X) (i : Nat)
  | fld (off : Nat) (sz : Option Nat) (x : X)
  | idx (n : Nat) (x i : X)
  | bxf (sz : Nat) (x : X)
  | sla (n lo : Nat) (x : X)
  | str (x : X)
  | steq (neg : Bool) (x y : X)
  | nil (x : X)
  | mkf (f : Nat) (first caps : List X)
  | mkm
  | lk (zero : V) (ok : Bool) (m k : X)
  | mu (m k v : X)
  | mxn (isMax : Bool) (x y : X)
  | call (m : Mode) (f : X) (args : List X)
  | no (why : String)

inductive D where
  | no
  | loc
  | slot (t : Nat)

structure Oper where
  dst : D
  op : Op
  guard : Option (X × Bool)

/-- A piece of code that is taken as a whole: a map's entries, a part of each, put into another map (in whatever order). -/
structure Spec where
  pre : List Oper
  m : X
  dst : Nat
  off : Nat
  sz : Option Nat
  row : Nat
  /-- the numbers of the temporaries and types in the loaded code -/
  ns : List Nat

inductive Code where
  | skip
  | reg (ops : List Oper)
  | regd (ps : List (Nat × Nat)) (ops : List Oper)
  | spec (sp : Spec)
  | seq (a b : Code)
  | cond (c : X) (thn els : Code)
  | block (id : Nat) (body : Code)
  | loop (live : List Bool) (objs : Nat) (body : Code)
  | exit (id : Nat) (live : List Bool) (objs : Nat)
  | scope (body : Code)
  | sc (body cur : Code)
  | label (l : Nat)
  | goto (l : Nat) (live : List Bool) (objs : Nat)
  | ret (live : List Bool)

/-- 'keep': how many of the store's new objects stay behind the call; 'raw': slices are handed back as they are. -/
structure Fun where
  np : Nat
  nslots : Nat
  keep : Nat
  raw : Bool
  results : List (Nat × Option (Option Nat))
  body : Code

inductive Ex where
  | normal
  | exit (id : Nat)
  | goto (l : Nat)
  | ret
  deriving DecidableEq

def LIM : Nat := 4294967296

structure R where
  rs : List V
  env : List V
  st : Store
  base : Nat
  lim : Nat

def vun : V := .one .un

def R.get (r : R) : X → V
  | .l k => r.rs.getD k vun
  | .s t => r.env.getD t vun
  | .c v => v
def R.put (r : R) : D → V → R
  | .no, _ => { r with rs := vun :: r.rs }
  | .loc, v => { r with rs := v :: r.rs }
  | .slot t, v => { r with rs := vun :: r.rs, env := r.env.set t v }

def V.cells : V → List C
  | .one c => [c]
  | .agg cs => cs
  | .tup _ => []

/-! ### References -/
mutual
def C.lt (n : Nat) : C → Bool
  | .f _ => true
  | .ap t _ _ => decide (t < n)
  | .ptr id _ _ _ => decide (id < n)
  | .fp _ _ => true
  | .own id _ _ _ => decide (id < n)
  | .map id => decide (id < n)
  | .fn _ a b => C.lts n a && C.lts n b
  | .un => true
def C.lts (n : Nat) : List C → Bool
  | [] => true
  | c :: cs => c.lt n && C.lts n cs
end
mutual
def V.lt (n : Nat) : V → Bool
  | .one c => c.lt n
  | .agg cs => C.lts n cs
  | .tup vs => V.lts n vs
def V.lts (n : Nat) : List V → Bool
  | [] => true
  | v :: vs => v.lt n && V.lts n vs
end
def C.ltss (n : Nat) : List (List C) → Bool
  | [] => true
  | e :: es => C.lts n e && C.ltss n es
def C.ltm (n : Nat) : List (Int × V) → Bool
  | [] => true
  | e :: es => e.2.lt n && C.ltm n es
def Ob.lt (n : Nat) : Ob → Bool
  | .cells _ _ es => C.ltss n es
  | .tok _ _ => true
  | .mp es => C.ltm n es
def Obs.lt (n : Nat) : List Ob → Bool
  | [] => true
  | o :: os => o.lt n && Obs.lt n os

/-- Cells of which it is known what they are. -/
def C.kns : List C → Bool
  | [] => true
  | .un :: _ => false
  | _ :: cs => C.kns cs

/-! ### The store -/
def Ob.elem (ver i : Nat) : Ob → Option (List C)
  | .cells ver' _ es => if ver' = ver then es[i]? else none
  | _ => none
def Store.elem (σ : Store) (id ver i : Nat) : Option (List C) := (σ[id]?).bind (Ob.elem ver i)
def Store.cell (σ : Store) (id ver i off : Nat) : Option C := (σ.elem id ver i).bind (·[off]?)
/-- Cells over others, from a place on. -/
def over (e : List C) (off : Nat) (cs : List C) : Option (List C) :=
  if off + cs.length ≤ e.length then some (e.take off ++ (cs ++ e.drop (off + cs.length))) else none
def upd (ver sz i : Nat) (es : List (List C)) (e : List C) : Ob := .cells ver sz (es.set i e)
def Ob.write (ver i off : Nat) (cs : List C) : Ob → Option Ob
  | .cells ver' sz es => if ver' = ver then ((es[i]?).bind fun e => over e off cs).map (upd ver' sz i es) else none
  | _ => none
def R.setOb (r : R) (id : Nat) (o : Ob) : R := { r with st := r.st.set id o }
def R.alloc (r : R) (o : Ob) : R := { r with st := r.st ++ [o] }
def R.write (r : R) (id ver i off : Nat) (cs : List C) : Option R :=
  if C.kns cs then ((r.st[id]?).bind (Ob.write ver i off cs)).map (r.setOb id) else none

/-! ### Values -/
def cint (k : IntKind) (n : Int) : C := .f (.lit (.int k n))
def vint (k : IntKind) (n : Int) : V := .one (.f (.lit (.int k n)))
def vbool (b : Bool) : V := .one (.f (.lit (.bool b)))
def vsl (xs : List (List Fz)) : V := .one (.f (.sl xs))
def vf (x : Fz) : V := .one (.f x)
def vagg (xs : List Fz) : V := .agg (xs.map C.f)
def vfp (e : List Fz) : V := .one (.fp e 0)
def vone (c : C) : V := .one c
def V.c1 : V → C
  | .one c => c
  | _ => .un

def aint (op : BinOp) (k : IntKind) (a b : Int) : Option V :=
  match op with
  | .add => some (.one (.f (.lit (.int k (k.wrap (a + b))))))
  | .sub => some (.one (.f (.lit (.int k (k.wrap (a - b))))))
  | .mul => some (.one (.f (.lit (.int k (k.wrap (a * b))))))
  | .quo => if b = 0 then none else some (.one (.f (.lit (.int k (k.wrap (a.tdiv b))))))
  | .rem => if b = 0 then none else some (.one (.f (.lit (.int k (a.tmod b)))))
  | .eql => some (.one (.f (.lit (.bool (decide (a = b))))))
  | .neq => some (.one (.f (.lit (.bool (!decide (a = b))))))
  | .lss => some (.one (.f (.lit (.bool (decide (a < b))))))
  | .leq => some (.one (.f (.lit (.bool (decide (a ≤ b))))))
  | .gtr => some (.one (.f (.lit (.bool (decide (b < a))))))
  | .geq => some (.one (.f (.lit (.bool (decide (b ≤ a))))))
  | .and => some (.one (.f (.lit (.int k (k.wrap (BitVec.ofInt k.bits a &&& BitVec.ofInt k.bits b).toNat)))))
  | .or => some (.one (.f (.lit (.int k (k.wrap (BitVec.ofInt k.bits a ||| BitVec.ofInt k.bits b).toNat)))))
  | .xor => some (.one (.f (.lit (.int k (k.wrap (BitVec.ofInt k.bits a ^^^ BitVec.ofInt k.bits b).toNat)))))
  | _ => none
def ashift (op : BinOp) (k : IntKind) (a b : Int) : Option V :=
  if 0 ≤ b then
    match op with
    | .shl => some (.one (.f (.lit (.int k (k.wrap (a * 2 ^ (min b.toNat k.bits)))))))
    | .shr => some (.one (.f (.lit (.int k (a.fdiv (2 ^ (min b.toNat k.bits)))))))
    | _ => none
  else none
def abool (op : BinOp) (a b : Bool) : Option V :=
  match op with
  | .eql => some (.one (.f (.lit (.bool (a == b)))))
  | .neq => some (.one (.f (.lit (.bool (a != b)))))
  | _ => none
def isShift : BinOp → Bool
  | .shl | .shr => true
  | _ => false
def abin (op : BinOp) : V → V → Option V
  | .one (.f (.lit (.int k a))), .one (.f (.lit (.int k' b))) => if isShift op then ashift op k a b else if k = k' then aint op k a b else none
  | _, _ => none
def aun : UnOp → V → Option V
  | .not, .one (.f (.lit (.bool b))) => some (.one (.f (.lit (.bool !b))))
  | .neg, .one (.f (.lit (.int k n))) => some (.one (.f (.lit (.int k (k.wrap (0 - n))))))
  | _, _ => none
/-- Cells of whole numbers, compared. -/
def eqCells : List C → List C → Option Bool
  | [], [] => some true
  | .f (.lit (.int k a)) :: xs, .f (.lit (.int k' b)) :: ys => if k = k' then (eqCells xs ys).map (decide (a = b) && ·) else none
  | _, _ => none
def abeq (neg : Bool) : V → V → Option V
  | .one (.f (.lit (.bool a))), .one (.f (.lit (.bool b))) => some (vbool (if neg then !(a == b) else a == b))
  | _, _ => none
/-- A pointer, compared with none. -/
def apnil (neg : Bool) : V → Option V
  | .one (.ptr _ _ _ _) => some (vbool neg)
  | .one (.fp _ _) => some (vbool neg)
  | .one (.f (.lit (.pointer none))) => some (vbool (!neg))
  | _ => none
def eqRes (neg b : Bool) : V := vbool (if neg then !b else b)
def aeqa (n : Nat) (neg : Bool) : V → V → Option V
  | .agg xs, .agg ys => if xs.length = n then (eqCells xs ys).map (eqRes neg) else none
  | _, _ => none

abbrev Caller := Nat → List V → Store → Option (V × Store)

/-- A cell, frozen. -/
def frzC : C → Option Fz
  | .f x => some x
  | .ap _ _ xs => some (.sl xs)
  | _ => none
def ocons {α : Type} : Option α → Option (List α) → Option (List α)
  | some x, some xs => some (x :: xs)
  | _, _ => none
def frzRow : List C → Option (List Fz)
  | [] => some []
  | c :: cs => ocons (frzC c) (frzRow cs)
def frzRows : List (List C) → Option (List (List Fz))
  | [] => some []
  | c :: cs => ocons (frzRow c) (frzRows cs)
def Ob.frz (ver lo n : Nat) : Ob → Option (List (List Fz))
  | .cells ver' _ es => if ver' = ver then frzRows ((es.drop lo).take n) else none
  | _ => none

/-- An argument of a closed call; what a call hands back. -/
def frzV (σ : Store) : V → Option V
  | .one (.own id ver lo n) => ((σ[id]?).bind (Ob.frz ver lo n)).map vsl
  | .one (.fn g [] []) => some (.one (.fn g [] []))
  | .one c => (frzC c).map vf
  | .agg cs => (frzRow cs).map vagg
  | .tup _ => none
def frzVs (σ : Store) : List V → Option (List V)
  | [] => some []
  | v :: vs => ocons (frzV σ v) (frzVs σ vs)

/-- A slice's elements. -/
def elems (σ : Store) : V → Option (List (List Fz))
  | .one (.own id ver lo n) => (σ[id]?).bind (Ob.frz ver lo n)
  | .one (.f (.sl xs)) => some xs
  | .one (.ap _ _ xs) => some xs
  | _ => none

def Ob.front (sz k : Nat) : Ob → Option Nat
  | .tok sz' fr => if sz' = sz then fr[k]? else none
  | _ => none
def Ob.setFront (k n : Nat) : Ob → Ob
  | .tok sz fr => .tok sz (fr.set k n)
  | o => o
def Ob.grow (n : Nat) (ys : List (List C)) : Ob → Ob
  | .cells ver sz es => .cells (ver + 1) sz (es.take n ++ ys)
  | o => o
def Ob.isRow (ver sz : Nat) : Ob → Bool
  | .cells ver' sz' _ => decide (ver' = ver) && decide (sz' = sz)
  | _ => false
def appTok (r : R) (d : D) (sz t k : Nat) (xs ys : List (List Fz)) (o : Ob) : Option R :=
  if o.front sz k = some xs.length ∧ xs.length + ys.length ≤ LIM then some ((r.setOb t (o.setFront k (xs.length + ys.length))).put d (.one (.ap t k (xs ++ ys)))) else none
def appRow (r : R) (d : D) (sz id ver n : Nat) (ys : List (List Fz)) (o : Ob) : Option R :=
  if o.isRow ver sz = true ∧ 0 < n + ys.length ∧ n + ys.length ≤ LIM then some ((r.setOb id (o.grow n (ys.map fun e => e.map C.f))).put d (.one (.own id (ver + 1) 0 (n + ys.length)))) else if o.isRow ver sz = true ∧ n + ys.length = 0 then some (r.put d (.one (.own id ver 0 0))) else none
def okSz (sz : Nat) : List (List Fz) → Bool
  | [] => true
  | e :: es => decide (e.length = sz) && okSz sz es
def aapp (r : R) (d : D) (sz : Nat) (ys : List (List Fz)) : V → Option R
  | .one (.ap t k xs) => (r.st[t]?).bind (appTok r d sz t k xs ys)
  | .one (.own id ver 0 n) => (r.st[id]?).bind (appRow r d sz id ver n ys)
  | _ => none

/-- Elements over others. -/
def copyRow (r : R) (d : D) (sz id ver lo k : Nat) (ys : List (List Fz)) : Ob → Option R
  | .cells ver' sz' es => if ver' = ver ∧ sz' = sz ∧ lo + k ≤ es.length then
      some ((r.setOb id (.cells ver sz (es.take lo ++ ((ys.take k).map (fun e => e.map C.f) ++ es.drop (lo + k))))).put d (vint .i64 k)) else none
  | _ => none
def acpy (r : R) (d : D) (sz : Nat) (ys : List (List Fz)) : V → Option R
  | .one (.own id ver lo n) => if min ys.length n = 0 then none else (r.st[id]?).bind (copyRow r d sz id ver lo (min ys.length n) ys)
  | _ => none
def fillC (r : R) : List (Nat × Nat × X) → List C → Option (List C)
  | [], cells => some cells
  | (off, sz, x) :: rest, cells => if (r.get x).cells.length = sz ∧ C.kns (r.get x).cells = true then (over cells off (r.get x).cells).bind (fillC r rest) else none
def fillS (r : R) (sz : Nat) : List (Nat × X) → List (List C) → Option (List (List C))
  | [], cells => some cells
  | (i, x) :: rest, cells => if i < cells.length ∧ (r.get x).cells.length = sz ∧ C.kns (r.get x).cells = true then fillS r sz rest (cells.set i (r.get x).cells) else none
/-- Tickets for some cells: a cell's place, and the size of its slice's elements; 4096 and more: a row of its own. -/
def tokO (sz : Nat) : Ob := if 4096 ≤ sz then .cells 0 (sz - 4096) [] else .tok sz [0]
def tokC (t sz : Nat) : C := if 4096 ≤ sz then .own t 0 0 0 else .ap t 0 []
def ticket : Nat → List (Nat × Nat) → List C → List C
  | _, [], cs => cs
  | t, j :: js, cs => ticket (t + 1) js (cs.set j.1 (tokC t j.2))
def tokens : List (Nat × Nat) → List Ob
  | [] => []
  | j :: js => tokO j.2 :: tokens js
def R.allocs (r : R) (os : List Ob) : R := { r with st := r.st ++ os }
def aal (r : R) (d : D) (zero : List C) (fresh : List (Nat × Nat)) : R :=
  (r.allocs (tokens fresh ++ [.cells 0 zero.length [ticket r.st.length fresh zero]])).put d (.one (.ptr (r.st.length + fresh.length) 0 0 0))
def abld (r : R) (d : D) (fresh : List (Nat × Nat)) (cs : List C) : R := (r.allocs (tokens fresh)).put d (.agg cs)
def abslF (r : R) (d : D) (xs : List (List Fz)) : R := r.put d (vsl xs)
def abslT (r : R) (d : D) (sz : Nat) (xs : List (List Fz)) : R := (r.alloc (.tok sz [xs.length])).put d (.one (.ap r.st.length 0 xs))
def absl (r : R) (d : D) (sz : Nat) : B → List (List C) → Option R
  | .fz, es => (frzRows es).map (abslF r d)
  | .tk, es => (frzRows es).map (abslT r d sz)
  | .rw, es => some ((r.alloc (.cells 0 sz es)).put d (.one (.own r.st.length 0 0 es.length)))

def alen : V → Option V
  | .one (.own _ _ _ n) => some (vint .i64 n)
  | .one (.f (.sl xs)) => some (vint .i64 xs.length)
  | .one (.ap _ _ xs) => some (vint .i64 xs.length)
  | _ => none
def alens : V → Option V
  | .one (.f (.lit (.string s))) => some (vint .i64 s.size)
  | _ => none
def afa (off : Nat) : V → Option V
  | .one (.ptr id ver i o) => some (.one (.ptr id ver i (o + off)))
  | .one (.fp cs o) => some (.one (.fp cs (o + off)))
  | _ => none
def ckSz (sz : Nat) (e : List Fz) : Option V := if e.length = sz then some (vfp e) else none
def aiaRow (id ver sz lo : Nat) (k : Int) (o : Ob) : Option V := if o.isRow ver sz then some (.one (.ptr id ver (lo + k.toNat) 0)) else none
def aia (σ : Store) (sz : Nat) : V → V → Option V
  | .one (.own id ver lo n), .one (.f (.lit (.int _ k))) => if 0 ≤ k ∧ k < n then (σ[id]?).bind (aiaRow id ver sz lo k) else none
  | .one (.f (.sl xs)), .one (.f (.lit (.int _ k))) => if 0 ≤ k then (xs[k.toNat]?).bind (ckSz sz) else none
  | .one (.ap _ _ xs), .one (.f (.lit (.int _ k))) => if 0 ≤ k then (xs[k.toNat]?).bind (ckSz sz) else none
  | _, _ => none
def aiaa (n sz : Nat) : V → V → Option V
  | .one (.ptr id ver j o), .one (.f (.lit (.int _ k))) => if 0 ≤ k ∧ k < n then some (.one (.ptr id ver j (o + k.toNat * sz))) else none
  | .one (.fp cs o), .one (.f (.lit (.int _ k))) => if 0 ≤ k ∧ k < n then some (.one (.fp cs (o + k.toNat * sz))) else none
  | _, _ => none
def cut {α : Type} (o n : Nat) (e : List α) : Option (List α) := if o + n ≤ e.length then some ((e.drop o).take n) else none
def ald (σ : Store) : Option Nat → V → Option V
  | none, .one (.ptr id ver i o) => (σ.cell id ver i o).map vone
  | none, .one (.fp cs o) => (cs[o]?).map vf
  | some n, .one (.ptr id ver i o) => ((σ.elem id ver i).bind (cut o n)).map V.agg
  | some n, .one (.fp cs o) => (cut o n cs).map vagg
  | _, _ => none
def ast (r : R) (sz : Nat) (cs : List C) : V → Option R
  | .one (.ptr id ver i o) => if cs.length = sz then r.write id ver i o cs else none
  | _ => none
def nest (t : Nat) (zero : List C) (j : Nat) (k : Nat) : List C := zero.set j (.ap t k [])
def amks (r : R) (d : D) (zero : List C) : Option (Nat × Nat) → V → Option R
  | none, .one (.f (.lit (.int _ k))) => if 0 ≤ k ∧ k ≤ LIM then some ((r.alloc (.cells 0 zero.length (List.replicate k.toNat zero))).put d (.one (.own r.st.length 0 0 k.toNat))) else none
  | some j, .one (.f (.lit (.int _ k))) => if 0 ≤ k ∧ k ≤ LIM then
      some ((r.allocs [.tok j.2 (List.replicate k.toNat 0), .cells 0 zero.length ((List.range k.toNat).map (nest r.st.length zero j.1))]).put d (.one (.own (r.st.length + 1) 0 0 k.toNat))) else none
  | _, _ => none
/-- A slice of slices that are rows of their own, without elements as yet. -/
def nestR (t : Nat) (zero : List C) (j : Nat) (k : Nat) : List C := zero.set j (.own (t + k) 0 0 0)
def amkr (r : R) (d : D) (zero : List C) (j sz : Nat) : V → Option R
  | .one (.f (.lit (.int _ k))) => if 0 ≤ k ∧ k ≤ LIM then
      some ((r.allocs (List.replicate k.toNat (.cells 0 sz []) ++ [.cells 0 zero.length ((List.range k.toNat).map (nestR r.st.length zero j))])).put d (.one (.own (r.st.length + k.toNat) 0 0 k.toNat))) else none
  | _ => none
/-- A slice without elements, but with room. -/
def amkc (r : R) (d : D) (sz : Nat) : V → Option R
  | .one (.f (.lit (.int _ k))) => if 0 ≤ k ∧ k ≤ LIM then some ((r.alloc (.tok sz [0])).put d (.one (.ap r.st.length 0 []))) else none
  | _ => none
def natOf : V → Option Nat
  | .one (.f (.lit (.int _ k))) => if 0 ≤ k then some k.toNat else none
  | _ => none
def bound (r : R) (dflt : Nat) : Option X → Option Nat
  | none => some dflt
  | some x => natOf (r.get x)
def slcTo (sz : Nat) (xs : List (List Fz)) (lo hi : Nat) : Option V := if lo ≤ hi ∧ hi ≤ xs.length ∧ okSz sz xs = true then some (vsl ((xs.take hi).drop lo)) else none
def ownTo (σ : Store) (sz id ver l n lo hi : Nat) : Option V := if lo ≤ hi ∧ hi ≤ n ∧ (σ[id]?).any (Ob.isRow ver sz) = true then some (.one (.own id ver (l + lo) (hi - lo))) else none
def strTo (s : ByteArray) (lo hi : Nat) : Option V := if lo ≤ hi ∧ hi ≤ s.size then some (.one (.f (.lit (.string (s.extract lo hi))))) else none
def two (f : Nat → Nat → Option V) : Option Nat → Option Nat → Option V
  | some a, some b => f a b
  | _, _ => none
def sameInt : V → V → Bool
  | .one (.f (.lit (.int k a))), .one (.f (.lit (.int k' b))) => decide (k = k') && decide (a = b)
  | _, _ => false
/-- A third index is the second one. -/
def mxOk (r : R) (hi : Option X) : Option X → Bool
  | none => true
  | some m => match hi with
    | some h => sameInt (r.get m) (r.get h)
    | none => false
/-- With a third index: it is the second one. -/
def aslc (r : R) (sz : Nat) (lo hi : Option X) (mx : Bool) : V → Option V
  | .one (.f (.sl xs)) => two (slcTo sz xs) (bound r 0 lo) (bound r xs.length hi)
  | .one (.ap _ _ xs) => two (slcTo sz xs) (bound r 0 lo) (bound r xs.length hi)
  | .one (.own id ver l n) => if mx then none else two (ownTo r.st sz id ver l n) (bound r 0 lo) (bound r n hi)
  | _ => none
def aslcs (r : R) (lo hi : Option X) : V → Option V
  | .one (.f (.lit (.string s))) => two (strTo s) (bound r 0 lo) (bound r s.size hi)
  | _ => none
def isSl : V → Bool
  | .one (.f (.sl _)) => true
  | .one (.ap _ _ _) => true
  | _ => false
def aext (i : Nat) : V → Option V
  | .tup vs => vs[i]?
  | _ => none
def afld (off : Nat) : Option Nat → V → Option V
  | none, .agg cs => (cs[off]?).map vone
  | some n, .agg cs => (cut off n cs).map V.agg
  | _, _ => none
/-- An array's element, of an array by value whose elements are one cell each. -/
def aidx (n : Nat) : V → V → Option V
  | .agg cs, .one (.f (.lit (.int _ k))) => if 0 ≤ k ∧ k < n then (cs[k.toNat]?).map vone else none
  | _, _ => none
/-- A slice of a frozen array whose elements are one cell each. -/
def single (c : Fz) : List Fz := [c]
def asla (n lo : Nat) : V → Option V
  | .one (.fp cs 0) => if cs.length = n ∧ lo ≤ n then some (vsl ((cs.drop lo).map single)) else none
  | _ => none
/-- A string out of bytes. -/
def byteOf : List Fz → Option Int
  | [.lit (.int .u8 n)] => some n
  | _ => none
def bytesOf : List (List Fz) → Option (List Int)
  | [] => some []
  | e :: es => ocons (byteOf e) (bytesOf es)
def strOf (ns : List Int) : ByteArray := ⟨(ns.map fun n => UInt8.ofNat n.toNat).toArray⟩
def vstr (ns : List Int) : V := .one (.f (.lit (.string (strOf ns))))
def astr (xs : List (List Fz)) : Option V := (bytesOf xs).map vstr
def asteq (neg : Bool) : V → V → Option V
  | .one (.f (.lit (.string a))), .one (.f (.lit (.string b))) => some (vbool (if neg then !(a.toList == b.toList) else a.toList == b.toList))
  | _, _ => none
def abxf (r : R) (d : D) (fs : List Fz) : R := r.put d (.one (.fp fs 0))
def anil : V → Option V
  | .one (.ptr id ver i o) => some (.one (.ptr id ver i o))
  | .one (.fp cs o) => some (.one (.fp cs o))
  | .one (.fn f a b) => some (.one (.fn f a b))
  | _ => none
def apick (a b : V) : V → Option V
  | .one (.f (.lit (.bool t))) => some (if t then a else b)
  | _ => none
def aconv (k : IntKind) : V → Option V
  | .one (.f (.lit (.int _ n))) => some (vint k (k.wrap n))
  | _ => none
def amxn (isMax : Bool) : V → V → Option V
  | .one (.f (.lit (.int k a))), .one (.f (.lit (.int k' b))) => if k = k' then some (vint k (if isMax then max a b else min a b)) else none
  | _, _ => none

def mget (k : Int) : List (Int × V) → Option V
  | [] => none
  | e :: es => if e.1 = k then some e.2 else mget k es
def mput (k : Int) (v : V) : List (Int × V) → List (Int × V)
  | [] => [(k, v)]
  | e :: es => if e.1 = k then (k, v) :: es else e :: mput k v es
def Ob.entries : Ob → Option (List (Int × V))
  | .mp es => some es
  | _ => none
def lkRes (zero : V) (ok : Bool) : Option V → V
  | some v => if ok then .tup [v, vbool true] else v
  | none => if ok then .tup [zero, vbool false] else zero
def alk (σ : Store) (zero : V) (ok : Bool) : V → V → Option V
  | .one (.map id), .one (.f (.lit (.int .i64 k))) => ((σ[id]?).bind Ob.entries).map fun es => lkRes zero ok (mget k es)
  | .one (.f (.lit (.map none))), .one (.f (.lit (.int .i64 _))) => some (lkRes zero ok none)
  | _, _ => none
def muTo (r : R) (id : Nat) (k : Int) (v : V) (es : List (Int × V)) : R := r.setOb id (.mp (mput k v es))
def amu (r : R) (v : V) : V → V → Option R
  | .one (.map id), .one (.f (.lit (.int .i64 k))) => ((r.st[id]?).bind Ob.entries).map (muTo r id k v)
  | _, _ => none

/-! ### Calls -/
mutual
def C.shift (n : Nat) : C → C
  | .f x => .f x
  | .ap t k xs => .ap (t + n) k xs
  | .ptr id ver i o => .ptr (id + n) ver i o
  | .fp cs o => .fp cs o
  | .own id ver lo m => .own (id + n) ver lo m
  | .map id => .map (id + n)
  | .fn g a b => .fn g (C.shifts n a) (C.shifts n b)
  | .un => .un
def C.shifts (n : Nat) : List C → List C
  | [] => []
  | c :: cs => c.shift n :: C.shifts n cs
end
mutual
def V.shift (n : Nat) : V → V
  | .one c => .one (c.shift n)
  | .agg cs => .agg (C.shifts n cs)
  | .tup vs => .tup (V.shifts n vs)
def V.shifts (n : Nat) : List V → List V
  | [] => []
  | v :: vs => v.shift n :: V.shifts n vs
end
def Ob.shift (n : Nat) : Ob → Ob
  | .cells ver sz es => .cells ver sz (es.map (C.shifts n))
  | .tok sz fr => .tok sz fr
  | .mp es => .mp (es.map fun e => (e.1, e.2.shift n))

def isOwn : V → Bool
  | .one (.own _ _ _ _) => true
  | _ => false
mutual
/-- No slice, no reference. -/
def V.plain : V → Bool
  | .one (.f (.lit _)) => true
  | .one _ => false
  | .agg cs => cs.all fun c => match c with
    | .f (.lit _) => true
    | _ => false
  | .tup vs => V.plains vs
def V.plains : List V → Bool
  | [] => true
  | v :: vs => v.plain && V.plains vs
end
/-- What is handed in out of a row of the store must not come back. -/
def callCl (r : R) (d : D) (lent : Bool) (x : V × Store) : Option R := if x.2.length = 0 ∧ (lent = false ∨ x.1.plain = true) then some (r.put d x.1) else none
def callCk (r : R) (d : D) (x : V × Store) : R := { r with st := r.st ++ x.2.map (Ob.shift r.st.length) }.put d (x.1.shift r.st.length)
def callOp (r : R) (d : D) (x : V × Store) : R := { r with st := x.2 }.put d x.1
def closed (c : Caller) (g : Nat) (as : List V) : Option (V × Store) := c g as []
def acall (call : Caller) (r : R) (d : D) (m : Mode) (args : List V) : V → Option R
  | .one (.fn g first caps) =>
    match m with
    | .cl => ((frzVs r.st (first.map V.one ++ (args ++ caps.map V.one))).bind (closed call g)).bind (callCl r d ((first.map V.one ++ (args ++ caps.map V.one)).any isOwn))
    | .ck => if (first.map V.one ++ (args ++ caps.map V.one)).any isOwn then none else ((frzVs r.st (first.map V.one ++ (args ++ caps.map V.one))).bind (closed call g)).map (callCk r d)
    | .op => (call g (first.map V.one ++ (args ++ caps.map V.one)) r.st).map (callOp r d)
  | _ => none
def R.gets (r : R) : List X → List V
  | [] => []
  | x :: xs => r.get x :: r.gets xs

def anl (r : R) (d : D) (sz : Nat) : B → Option R
  | .tk => some ((r.alloc (.tok sz [0])).put d (.one (.ap r.st.length 0 [])))
  | .rw => some ((r.alloc (.cells 0 sz [])).put d (.one (.own r.st.length 0 0 0)))
  | .fz => some (r.put d (vsl []))

def stepOp (call : Caller) (r : R) (d : D) : Op → Option R
  | .mv x => some (r.put d (r.get x))
  | .pick c a b => (apick (r.get a) (r.get b) (r.get c)).map (r.put d)
  | .bin op x y => (abin op (r.get x) (r.get y)).map (r.put d)
  | .beq neg x y => (abeq neg (r.get x) (r.get y)).map (r.put d)
  | .pnil neg x => (apnil neg (r.get x)).map (r.put d)
  | .eqa n neg x y => (aeqa n neg (r.get x) (r.get y)).map (r.put d)
  | .un op x => (aun op (r.get x)).map (r.put d)
  | .conv k x => (aconv k (r.get x)).map (r.put d)
  | .len x => (alen (r.get x)).map (r.put d)
  | .lens x => (alens (r.get x)).map (r.put d)
  | .fa off x => (afa off (r.get x)).map (r.put d)
  | .ia sz x i => (aia r.st sz (r.get x) (r.get i)).map (r.put d)
  | .iaa n sz x i => (aiaa n sz (r.get x) (r.get i)).map (r.put d)
  | .ld sz x => (ald r.st sz (r.get x)).map (r.put d)
  | .st sz x v => (ast r sz (r.get v).cells (r.get x)).map fun r => r.put d vun
  | .al zero fresh => some (aal r d zero fresh)
  | .box sz x => if (r.get x).cells.length = sz ∧ C.kns (r.get x).cells = true then some ((r.alloc (.cells 0 sz [(r.get x).cells])).put d (.one (.ptr r.st.length 0 0 0))) else none
  | .bld zero parts fresh => (fillC r parts (ticket r.st.length fresh zero)).map (abld r d fresh)
  | .bsl b sz zero parts => (fillS r sz parts zero).bind (absl r d sz b)
  | .nl b sz => anl r d sz b
  | .app sz s x => (elems r.st (r.get x)).bind fun ys => if okSz sz ys then aapp r d sz ys (r.get s) else none
  | .cpy sz x y => (elems r.st (r.get y)).bind fun ys => if okSz sz ys then acpy r d sz ys (r.get x) else none
  | .mks zero fresh n => amks r d zero fresh (r.get n)
  | .mkc sz n => amkc r d sz (r.get n)
  | .mkr zero j sz n => amkr r d zero j sz (r.get n)
  | .slc sz x lo hi mx => if mxOk r hi mx = true then (aslc r sz lo hi mx.isSome (r.get x)).map (r.put d) else none
  | .slcs x lo hi => (aslcs r lo hi (r.get x)).map (r.put d)
  | .nlc b sz x => if isSl (r.get x) then anl r d sz b else none
  | .ext x i => (aext i (r.get x)).map (r.put d)
  | .fld off sz x => (afld off sz (r.get x)).map (r.put d)
  | .idx n x i => (aidx n (r.get x) (r.get i)).map (r.put d)
  | .bxf sz x => if (r.get x).cells.length = sz then (frzRow (r.get x).cells).map (abxf r d) else none
  | .sla n lo x => (asla n lo (r.get x)).map (r.put d)
  | .str x => ((elems r.st (r.get x)).bind astr).map (r.put d)
  | .steq neg x y => (asteq neg (r.get x) (r.get y)).map (r.put d)
  | .nil x => (anil (r.get x)).map (r.put d)
  | .mkf f first caps => some (r.put d (.one (.fn f ((r.gets first).map V.c1) ((r.gets caps).map V.c1))))
  | .mkm => some ((r.alloc (.mp [])).put d (.one (.map r.st.length)))
  | .lk zero ok m k => (alk r.st zero ok (r.get m) (r.get k)).map (r.put d)
  | .mu m k v => (amu r (r.get v) (r.get m) (r.get k)).map fun r => r.put d vun
  | .mxn isMax x y => (amxn isMax (r.get x) (r.get y)).map (r.put d)
  | .call m f args => acall call r d m (r.gets args) (r.get f)
  | .no _ => none

def aguard (call : Caller) (r : R) (d : D) (op : Op) (b : Bool) : V → Option R
  | .one (.f (.lit (.bool t))) => if t = b then stepOp call r d op else some (r.put d (.tup []))
  | .tup [] => some (r.put d (.tup []))
  | _ => none
def step (call : Caller) (r : R) : Oper → Option R
  | ⟨d, op, none⟩ => stepOp call r d op
  | ⟨d, op, some (x, b)⟩ => aguard call r d op b (r.get x)

def steps (call : Caller) : List Oper → R → Option R
  | [], r => some r
  | o :: os, r => (step call r o).bind (steps call os)

/-! ### Regions in which what is read is the same earlier or later -/
def Value.beq : Value → Value → Bool
  | .int k a, .int k' b => decide (k = k') && decide (a = b)
  | .bool a, .bool b => a == b
  | .string a, .string b => decide (a.data.toList = b.data.toList)
  | _, _ => false
mutual
def Fz.beq : Fz → Fz → Bool
  | .lit v, .lit u => Value.beq v u
  | .sl xs, .sl ys => Fz.beqs xs ys
  | _, _ => false
def Fz.beqR : List Fz → List Fz → Bool
  | [], [] => true
  | x :: xs, y :: ys => x.beq y && Fz.beqR xs ys
  | _, _ => false
def Fz.beqs : List (List Fz) → List (List Fz) → Bool
  | [], [] => true
  | x :: xs, y :: ys => Fz.beqR x y && Fz.beqs xs ys
  | _, _ => false
end
def C.beq : C → C → Bool
  | .f x, .f y => x.beq y
  | .ap t k xs, .ap t' k' ys => decide (t = t') && decide (k = k') && Fz.beqs xs ys
  | .ptr a b c d, .ptr a' b' c' d' => decide (a = a') && decide (b = b') && decide (c = c') && decide (d = d')
  | .fp xs o, .fp ys o' => Fz.beqR xs ys && decide (o = o')
  | .own a b c d, .own a' b' c' d' => decide (a = a') && decide (b = b') && decide (c = c') && decide (d = d')
  | .map a, .map b => decide (a = b)
  | _, _ => false
def C.beqs : List C → List C → Bool
  | [], [] => true
  | x :: xs, y :: ys => x.beq y && C.beqs xs ys
  | _, _ => false
def V.beq : V → V → Bool
  | .one c, .one d => c.beq d
  | .agg cs, .agg ds => C.beqs cs ds
  | _, _ => false
def noCall : Caller := fun _ _ _ => none
/-- The operation j, at the store ahead of the operation k, comes to the same. -/
def sameRes : Option R → Option R → Bool
  | some a, some b => (a.rs.headD vun).beq (b.rs.headD vun)
  | _, _ => false
def samePair (c : Caller) (ops : List Oper) (r : R) (p : Nat × Nat) : Bool := match steps c (ops.take p.1) r, steps c (ops.take p.2) r, ops[p.1]? with
  | some rj, some rk, some x => sameRes (step noCall { rj with st := rk.st } x) (step noCall rj x)
  | _, _, _ => false
def regD (c : Caller) (ps : List (Nat × Nat)) (ops : List Oper) (r : R) : Option R := (steps c ops r).bind fun r1 => if ps.all (samePair c ops r) then some r1 else none

structure St where
  env : List V
  st : Store
  base : Nat
  lim : Nat

def clr : List Bool → List V → List V
  | [], _ => []
  | true :: bs, v :: vs => v :: clr bs vs
  | false :: bs, _ :: vs => vun :: clr bs vs
  | _, [] => []
/-- What is no longer wanted is dropped: slots, and the objects from a place on (to which nothing leads). -/
def dropSt (n : Nat) (env : List V) (σ : Store) : Option Store :=
  if σ.length ≤ n then some σ else if V.lts n env && Obs.lt n (σ.take n) then some (σ.take n) else none
def St.mkSt (s : St) (env : List V) (σ : Store) : St := { s with env := env, st := σ }
def St.clear (s : St) (live : List Bool) (objs : Nat) : Option St :=
  (dropSt (s.base + objs) (clr live s.env) s.st).map (s.mkSt (clr live s.env))
def exTo (e : Ex) (s : St) : Ex × St := (e, s)

def findLabel : Code → Nat → Option Code
  | .seq a b, l => match findLabel a l with
    | some rest => some (.seq rest b)
    | none => findLabel b l
  | .label l', l => if l' = l then some .skip else none
  | _, _ => none

def enter (fn : Fun) (args : List V) (σ : Store) : St := ⟨args ++ List.replicate (fn.nslots - args.length) vun, σ, σ.length, σ.length + fn.keep⟩
/-- Cells that are handed back: a row that is dropped is handed back frozen. -/
def frzCo (lim : Nat) (σ : Store) : C → Option Fz
  | .own id ver lo n => if lim ≤ id then ((σ[id]?).bind (Ob.frz ver lo n)).map Fz.sl else none
  | c => frzC c
def frzRowO (lim : Nat) (σ : Store) : List C → Option (List Fz)
  | [] => some []
  | c :: cs => ocons (frzCo lim σ c) (frzRowO lim σ cs)
/-- What is handed back: a row that is dropped may be handed back frozen. -/
def frzO (lim : Nat) (σ : Store) : V → Option V
  | .one (.own id ver lo n) => if lim ≤ id then ((σ[id]?).bind (Ob.frz ver lo n)).map vsl else none
  | .one (.ap _ _ xs) => some (vsl xs)
  | .agg cs => (frzRowO lim σ cs).map vagg
  | v => some v
/-- A result: a slot's value, or what lies where a slot points to. -/
def resAt (σ : Store) (env : List V) : Nat × Option (Option Nat) → Option V
  | (t, none) => some (env.getD t vun)
  | (t, some sz) => ald σ sz (env.getD t vun)
def frzI (raw : Bool) (lim : Nat) (σ : Store) (v : V) : Option V := if raw then some v else frzO lim σ v
def outs (raw : Bool) (lim : Nat) (σ : Store) (env : List V) : List (Nat × Option (Option Nat)) → Option (List V)
  | [] => some []
  | t :: ts => ocons ((resAt σ env t).bind (frzI raw lim σ)) (outs raw lim σ env ts)
def resV : List V → V
  | [v] => v
  | vs => .tup vs
def leaveK (lim : Nat) (σ : Store) (vs : List V) : Option (V × Store) := (dropSt lim vs σ).map fun σ' => (resV vs, σ')
def leave (raw : Bool) (res : List (Nat × Option (Option Nat))) : Ex × St → Option (V × Store)
  | (.normal, s) => (outs raw s.lim s.st s.env res).bind (leaveK s.lim s.st)
  | (.ret, s) => (outs raw s.lim s.st s.env res).bind (leaveK s.lim s.st)
  | _ => none

/-- A function: its code, or what it does, taken for granted (a contract of its own). -/
inductive Entry where
  | fn (f : Fun)
  | ext (f : List V → Store → Option (V × Store))

def callW (T : Nat → Option Entry) (E : Code → St → Option (Ex × St)) : Caller := fun f args σ =>
  match T f with
  | some (.fn fn) => if args.length = fn.np then (E fn.body (enter fn args σ)).bind (leave fn.raw fn.results) else none
  | some (.ext g) => g args σ
  | none => none

/-- What follows, by how a piece ended. -/
def seqK (E : St → Option (Ex × St)) : Ex × St → Option (Ex × St)
  | (.normal, s) => E s
  | (.exit i, s) => some (.exit i, s)
  | (.goto i, s) => some (.goto i, s)
  | (.ret, s) => some (.ret, s)
def condK (A B : St → Option (Ex × St)) (s : St) : V → Option (Ex × St)
  | .one (.f (.lit (.bool t))) => if t then A s else B s
  | _ => none
def blockK (id : Nat) : Ex × St → Ex × St
  | (.exit id', s) => if id' = id then (.normal, s) else (.exit id', s)
  | r => r
def loopK (E : St → Option (Ex × St)) (live : List Bool) (objs : Nat) : Ex × St → Option (Ex × St)
  | (.normal, s) => (s.clear live objs).bind E
  | (.exit i, s) => some (.exit i, s)
  | (.goto i, s) => some (.goto i, s)
  | (.ret, s) => some (.ret, s)
def scK (E : Code → St → Option (Ex × St)) (body : Code) : Ex × St → Option (Ex × St)
  | (.goto l, s) => match findLabel body l with
    | some rest => E (.sc body rest) s
    | none => some (.goto l, s)
  | r => some r
def regK (base lim : Nat) (r : R) : Ex × St := (.normal, ⟨r.env, r.st, base, lim⟩)

/-- A part of each entry into another map. -/
def copyInto (off : Nat) (sz : Option Nat) (row : Nat) : List (Int × V) → List (Int × V) → Option (List (Int × V))
  | [], ds => some ds
  | e :: es, ds => if e.2.cells.length = row ∧ C.kns e.2.cells = true then (afld off sz e.2).bind fun v => copyInto off sz row es (mput e.1 v ds) else none
def specTo (sp : Spec) (s : St) (σ : Store) : V → V → Option St
  | .one (.map id), .one (.map id') => if id = id' then none else
      ((σ[id]?).bind Ob.entries).bind fun es => ((σ[id']?).bind Ob.entries).bind fun ds => (copyInto sp.off sp.sz sp.row es ds).map fun ds' => s.mkSt s.env (σ.set id' (.mp ds'))
  | _, _ => none
def specE (sp : Spec) (s : St) : Option St := (steps noCall sp.pre ⟨[], s.env, s.st, s.base, s.lim⟩).bind fun r => specTo sp (s.mkSt r.env r.st) r.st (r.get sp.m) (r.env.getD sp.dst vun)

def execN (T : Nat → Option Entry) : Nat → Code → St → Option (Ex × St)
  | 0, _, _ => none
  | n + 1, c, s =>
    match c with
    | .skip => some (.normal, s)
    | .reg ops => (steps (callW T (execN T n)) ops ⟨[], s.env, s.st, s.base, s.lim⟩).map (regK s.base s.lim)
    | .regd ps ops => (regD (callW T (execN T n)) ps ops ⟨[], s.env, s.st, s.base, s.lim⟩).map (regK s.base s.lim)
    | .spec sp => (specE sp s).map (exTo .normal)
    | .seq a b => (execN T n a s).bind (seqK (execN T n b))
    | .cond x a b => condK (execN T n a) (execN T n b) s ((R.mk [] s.env s.st s.base s.lim).get x)
    | .block id body => (execN T n body s).map (blockK id)
    | .loop live objs body => (execN T n body s).bind (loopK (execN T n (.loop live objs body)) live objs)
    | .exit id live objs => (s.clear live objs).map (exTo (.exit id))
    | .scope body => execN T n (.sc body body) s
    | .sc body cur => (execN T n cur s).bind (scK (execN T n) body)
    | .label _ => some (.normal, s)
    | .goto l live objs => (s.clear live objs).map (exTo (.goto l))
    | .ret live => some (.ret, s.mkSt (clr live s.env) s.st)

/-! ### The limit -/
def Le {α : Type} (a b : Option α) : Prop := ∀ r, a = some r → b = some r
theorem Le.refl {α : Type} (a : Option α) : Le a a := fun _ h => h
theorem Le.bind {α β : Type} {a b : Option α} {K K' : α → Option β} (h : Le a b) (hk : ∀ x, Le (K x) (K' x)) : Le (a.bind K) (b.bind K') := by
  intro r hr
  rw [Option.bind_eq_some_iff] at hr ⊢
  obtain ⟨x, hx, h2⟩ := hr
  exact ⟨x, h x hx, hk x r h2⟩
theorem Le.map {α β : Type} {a b : Option α} (h : Le a b) (f : α → β) : Le (a.map f) (b.map f) := by
  intro r hr
  rw [Option.map_eq_some_iff] at hr ⊢
  obtain ⟨x, hx, h2⟩ := hr
  exact ⟨x, h x hx, h2⟩

def LeC (c c' : Caller) : Prop := ∀ f a σ, Le (c f a σ) (c' f a σ)

theorem acall_mono {c c' : Caller} (h : LeC c c') (r : R) (d : D) (m : Mode) (as : List V) (v : V) : Le (acall c r d m as v) (acall c' r d m as v) := by
  unfold acall
  split
  · cases m
    · exact ((Le.refl _).bind fun as => h _ _ _).bind fun _ => Le.refl _
    · dsimp only
      split
      · exact Le.refl _
      · exact ((Le.refl _).bind fun as => h _ _ _).map _
    · exact (h _ _ _).map _
  · exact Le.refl _

theorem stepOp_mono {c c' : Caller} (h : LeC c c') (r : R) (d : D) (o : Op) : Le (stepOp c r d o) (stepOp c' r d o) := by
  cases o
  case call m f args => exact acall_mono h r d m _ _
  all_goals exact Le.refl _

theorem step_mono {c c' : Caller} (h : LeC c c') (r : R) (o : Oper) : Le (step c r o) (step c' r o) := by
  obtain ⟨d, op, g⟩ := o
  cases g with
  | none => exact stepOp_mono h r d op
  | some g =>
    obtain ⟨x, b⟩ := g
    simp only [step]
    generalize r.get x = v
    unfold aguard
    split
    · split
      · exact stepOp_mono h r d op
      · exact Le.refl _
    · exact Le.refl _
    · exact Le.refl _

theorem steps_mono {c c' : Caller} (h : LeC c c') : ∀ (os : List Oper) (r : R), Le (steps c os r) (steps c' os r)
  | [], _ => Le.refl _
  | o :: os, r => (step_mono h r o).bind fun x => steps_mono h os x

theorem samePair_mono {c c' : Caller} (h : LeC c c') (ops : List Oper) (r : R) (p : Nat × Nat) (hp : samePair c ops r p = true) : samePair c' ops r p = true := by
  unfold samePair at hp ⊢
  split at hp
  · rename_i rj rk x h1 h2 h3
    rw [steps_mono h _ _ _ h1, steps_mono h _ _ _ h2, h3]
    exact hp
  · cases hp
theorem regD_mono {c c' : Caller} (h : LeC c c') (ps : List (Nat × Nat)) (ops : List Oper) (r : R) : Le (regD c ps ops r) (regD c' ps ops r) := by
  intro r1 h1
  unfold regD at h1 ⊢
  rw [Option.bind_eq_some_iff] at h1 ⊢
  obtain ⟨r2, h2, h3⟩ := h1
  refine ⟨r2, steps_mono h _ _ _ h2, ?_⟩
  split at h3
  · rename_i ha
    rw [if_pos (List.all_eq_true.2 fun p hp => samePair_mono h _ _ _ (List.all_eq_true.1 ha p hp))]
    exact h3
  · cases h3

theorem callW_mono {T : Nat → Option Entry} {E E' : Code → St → Option (Ex × St)} (h : ∀ c s, Le (E c s) (E' c s)) : LeC (callW T E) (callW T E') := by
  intro f a σ
  unfold callW
  split
  · split
    · exact (h _ _).bind fun _ => Le.refl _
    · exact Le.refl _
  · exact Le.refl _
  · exact Le.refl _

theorem seqK_mono {E E' : St → Option (Ex × St)} (h : ∀ s, Le (E s) (E' s)) (x : Ex × St) : Le (seqK E x) (seqK E' x) := by
  obtain ⟨e, s⟩ := x
  cases e <;> first | exact h s | exact Le.refl _
theorem loopK_mono {E E' : St → Option (Ex × St)} (h : ∀ s, Le (E s) (E' s)) (lv : List Bool) (ob : Nat) (x : Ex × St) : Le (loopK E lv ob x) (loopK E' lv ob x) := by
  obtain ⟨e, s⟩ := x
  cases e <;> first | exact (Le.refl _).bind h | exact Le.refl _
theorem condK_mono {A A' B B' : St → Option (Ex × St)} (h : ∀ s, Le (A s) (A' s)) (h' : ∀ s, Le (B s) (B' s)) (s : St) (v : V) : Le (condK A B s v) (condK A' B' s v) := by
  unfold condK
  split
  · split
    · exact h s
    · exact h' s
  · exact Le.refl _
theorem scK_mono {E E' : Code → St → Option (Ex × St)} (h : ∀ c s, Le (E c s) (E' c s)) (body : Code) (x : Ex × St) : Le (scK E body x) (scK E' body x) := by
  obtain ⟨e, s⟩ := x
  cases e <;> simp only [scK]
  case goto l =>
    split
    · exact h _ _
    · exact Le.refl _
  all_goals exact Le.refl _

theorem execN_succ (T : Nat → Option Entry) : ∀ (n : Nat) (c : Code) (s : St), Le (execN T n c s) (execN T (n + 1) c s)
  | 0, _, _ => fun r h => by simp [execN] at h
  | n + 1, c, s => by
    have ih := execN_succ T n
    cases c <;> simp only [execN]
    case reg ops => exact (steps_mono (callW_mono ih) ops _).map _
    case regd ps ops => exact (regD_mono (callW_mono ih) ps ops _).map _
    case seq a b => exact (ih a s).bind (seqK_mono (ih b))
    case cond x a b => exact condK_mono (ih a) (ih b) s _
    case block id body => exact (ih body s).map _
    case loop lv ob body => exact (ih body s).bind (loopK_mono (ih _) lv ob)
    case scope body => exact ih _ _
    case sc body cur => exact (ih cur s).bind (scK_mono ih body)
    all_goals exact Le.refl _

theorem execN_le (T : Nat → Option Entry) {n m : Nat} (hnm : n ≤ m) (c : Code) (s : St) : Le (execN T n c s) (execN T m c s) := by
  induction hnm with
  | refl => exact Le.refl _
  | step _ ih => exact fun r h => execN_succ T _ _ _ r (ih r h)

open Classical in
noncomputable def exec (T : Nat → Option Entry) (c : Code) (s : St) : Option (Ex × St) :=
  if h : ∃ r n, execN T n c s = some r then some h.choose else none

theorem exec_some {T : Nat → Option Entry} {c : Code} {s : St} {r : Ex × St} : exec T c s = some r ↔ ∃ n, execN T n c s = some r := by
  unfold exec
  constructor
  · intro h
    split at h
    · rename_i hx
      injection h with h
      subst h
      exact hx.choose_spec
    · cases h
  · rintro ⟨n, hn⟩
    have hx : ∃ r n, execN T n c s = some r := ⟨r, n, hn⟩
    rw [dif_pos hx]
    obtain ⟨m, hm⟩ := hx.choose_spec
    have h1 := execN_le T (Nat.le_max_left n m) _ _ _ hn
    have h2 := execN_le T (Nat.le_max_right n m) _ _ _ hm
    rw [h1] at h2
    exact h2.symm

noncomputable def call (T : Nat → Option Entry) : Caller := callW T (exec T)

theorem ext_some {α : Type} {a b : Option α} (h : ∀ r, a = some r ↔ b = some r) : a = b := by
  cases a with
  | none => cases b with
    | none => rfl
    | some y => exact ((h y).2 rfl)
  | some x => exact ((h x).1 rfl).symm

theorem call_le {T : Nat → Option Entry} {f : Nat} {a : List V} {σ : Store} {r : V × Store} (h : call T f a σ = some r) : ∃ n, callW T (execN T n) f a σ = some r := by
  unfold call callW at h
  unfold callW
  split at h
  · split at h
    · rename_i hnp
      simp only [if_pos hnp, Option.bind_eq_some_iff] at h ⊢
      obtain ⟨x, hx, e⟩ := h
      obtain ⟨n, hn⟩ := exec_some.1 hx
      exact ⟨n, x, hn, e⟩
    · cases h
  · exact ⟨0, h⟩
  · cases h

theorem callN_le (T : Nat → Option Entry) {n m : Nat} (h : n ≤ m) : LeC (callW T (execN T n)) (callW T (execN T m)) := callW_mono fun c s => execN_le T h c s
theorem callN_call (T : Nat → Option Entry) (n : Nat) : LeC (callW T (execN T n)) (call T) := callW_mono fun _ _ _ hr => exec_some.2 ⟨n, hr⟩

theorem acall_lim {T : Nat → Option Entry} {r : R} {d : D} {m : Mode} {as : List V} {v : V} {x : R} (hs : acall (call T) r d m as v = some x) : ∃ n, acall (callW T (execN T n)) r d m as v = some x := by
  unfold acall at hs ⊢
  split at hs
  · cases m
    · simp only [Option.bind_eq_some_iff] at hs ⊢
      obtain ⟨y, ⟨as, ha, hv⟩, e⟩ := hs
      obtain ⟨n, hn⟩ := call_le hv
      exact ⟨n, y, ⟨as, ha, hn⟩, e⟩
    · dsimp only at hs ⊢
      split at hs
      · cases hs
      · rename_i hown
        simp only [if_neg hown, Option.map_eq_some_iff, Option.bind_eq_some_iff] at hs ⊢
        obtain ⟨y, ⟨as, ha, hv⟩, e⟩ := hs
        obtain ⟨n, hn⟩ := call_le hv
        exact ⟨n, y, ⟨as, ha, hn⟩, e⟩
    · simp only [Option.map_eq_some_iff] at hs ⊢
      obtain ⟨y, hv, e⟩ := hs
      obtain ⟨n, hn⟩ := call_le hv
      exact ⟨n, y, hn, e⟩
  · cases hs

theorem stepOp_lim {T : Nat → Option Entry} {r : R} {d : D} {o : Op} {x : R} (hs : stepOp (call T) r d o = some x) : ∃ n, stepOp (callW T (execN T n)) r d o = some x := by
  cases o
  case call m f args => exact acall_lim hs
  all_goals exact ⟨0, hs⟩

theorem step_lim {T : Nat → Option Entry} {r : R} {o : Oper} {x : R} (hs : step (call T) r o = some x) : ∃ n, step (callW T (execN T n)) r o = some x := by
  obtain ⟨d, op, g⟩ := o
  cases g with
  | none => exact stepOp_lim hs
  | some g =>
    obtain ⟨y, b⟩ := g
    simp only [step] at hs ⊢
    generalize r.get y = v at hs ⊢
    unfold aguard at hs ⊢
    split at hs
    · split at hs
      · rename_i h
        obtain ⟨n, hn⟩ := stepOp_lim hs
        exact ⟨n, by rw [if_pos h]; exact hn⟩
      · rename_i h
        exact ⟨0, by rw [if_neg h]; exact hs⟩
    · exact ⟨0, hs⟩
    · cases hs

theorem steps_lim {T : Nat → Option Entry} : ∀ (os : List Oper) {r x : R}, steps (call T) os r = some x → ∃ n, steps (callW T (execN T n)) os r = some x
  | [], _, _, hs => ⟨0, hs⟩
  | o :: os, r, x, hs => by
    simp only [steps, Option.bind_eq_some_iff] at hs ⊢
    obtain ⟨r1, h1, h2⟩ := hs
    obtain ⟨n, hn⟩ := step_lim h1
    obtain ⟨m, hm⟩ := steps_lim os h2
    exact ⟨max n m, r1, step_mono (callN_le T (Nat.le_max_left n m)) _ _ _ hn, steps_mono (callN_le T (Nat.le_max_right n m)) os _ _ hm⟩

theorem regD_lim {T : Nat → Option Entry} (ps : List (Nat × Nat)) (os : List Oper) {r x : R} (hs : regD (call T) ps os r = some x) : ∃ n, regD (callW T (execN T n)) ps os r = some x := by
  unfold regD at hs
  rw [Option.bind_eq_some_iff] at hs
  obtain ⟨r2, h2, h3⟩ := hs
  split at h3
  · rename_i ha
    injection h3 with h3
    subst h3
    obtain ⟨n, hn⟩ := steps_lim os h2
    have hall : ∀ ps : List (Nat × Nat), ps.all (samePair (call T) os r) = true → ∃ m, ps.all (samePair (callW T (execN T m)) os r) = true := by
      intro ps
      induction ps with
      | nil => exact fun _ => ⟨0, rfl⟩
      | cons p ps ih =>
        intro ha
        simp only [List.all_cons, Bool.and_eq_true] at ha
        obtain ⟨m, hm⟩ := ih ha.2
        have h1 := ha.1
        unfold samePair at h1
        split at h1
        · rename_i rj rk x q1 q2 q3
          obtain ⟨a, ha'⟩ := steps_lim _ q1
          obtain ⟨b, hb'⟩ := steps_lim _ q2
          refine ⟨max m (max a b), ?_⟩
          simp only [List.all_cons, Bool.and_eq_true]
          refine ⟨?_, List.all_eq_true.2 fun p hp => samePair_mono (callN_le T (Nat.le_max_left m _)) _ _ _ (List.all_eq_true.1 hm p hp)⟩
          unfold samePair
          rw [steps_mono (callN_le T (by omega : a ≤ max m (max a b))) _ _ _ ha', steps_mono (callN_le T (by omega : b ≤ max m (max a b))) _ _ _ hb', q3]
          exact h1
        · cases h1
    obtain ⟨m, hm⟩ := hall ps ha
    refine ⟨max n m, ?_⟩
    unfold regD
    rw [steps_mono (callN_le T (Nat.le_max_left n m)) _ _ _ hn]
    simp only [Option.bind_some]
    rw [if_pos (List.all_eq_true.2 fun p hp => samePair_mono (callN_le T (Nat.le_max_right n m)) _ _ _ (List.all_eq_true.1 hm p hp))]
  · cases h3

section eqs
variable (T : Nat → Option Entry) (s : St)

/-- From 'a round' to the limit. -/
theorem exec_eq {c : Code} {F : Nat → Option (Ex × St)} {L : Option (Ex × St)} (h0 : ∀ n, execN T (n + 1) c s = F n) (hL : ∀ r, L = some r ↔ ∃ n, F n = some r) : exec T c s = L := by
  refine ext_some fun r => ?_
  rw [exec_some, hL]
  constructor
  · rintro ⟨n, hn⟩
    cases n with
    | zero => simp [execN] at hn
    | succ n => exact ⟨n, by rw [← h0]; exact hn⟩
  · rintro ⟨n, hn⟩
    exact ⟨n + 1, by rw [h0]; exact hn⟩

theorem bind_lim {β : Type} {c : Code} {G : Nat → Ex × St → Option β} {K : Ex × St → Option β} (hG : ∀ x n m, n ≤ m → Le (G n x) (G m x)) (hK : ∀ x r, K x = some r ↔ ∃ n, G n x = some r) (r : β) :
    (exec T c s).bind K = some r ↔ ∃ n, (execN T n c s).bind (G n) = some r := by
  simp only [Option.bind_eq_some_iff]
  constructor
  · rintro ⟨x, hx, hk⟩
    obtain ⟨n, hn⟩ := exec_some.1 hx
    obtain ⟨m, hm⟩ := (hK _ _).1 hk
    exact ⟨max n m, x, execN_le T (Nat.le_max_left n m) _ _ _ hn, hG _ _ _ (Nat.le_max_right n m) _ hm⟩
  · rintro ⟨n, x, hx, hg⟩
    exact ⟨x, exec_some.2 ⟨n, hx⟩, (hK _ _).2 ⟨n, hg⟩⟩

theorem const_lim {α : Type} {L : Option α} (r : α) : L = some r ↔ ∃ _n : Nat, L = some r := ⟨fun h => ⟨0, h⟩, fun ⟨_, h⟩ => h⟩

theorem exec_skip : exec T .skip s = some (.normal, s) := exec_eq T s (fun _ => by rw [execN]) const_lim
theorem exec_label (l : Nat) : exec T (.label l) s = some (.normal, s) := exec_eq T s (fun _ => by rw [execN]) const_lim
theorem exec_goto (l : Nat) (lv : List Bool) (ob : Nat) : exec T (.goto l lv ob) s = (s.clear lv ob).map (exTo (.goto l)) := exec_eq T s (fun _ => by rw [execN]) const_lim
theorem exec_exit (l : Nat) (lv : List Bool) (ob : Nat) : exec T (.exit l lv ob) s = (s.clear lv ob).map (exTo (.exit l)) := exec_eq T s (fun _ => by rw [execN]) const_lim
theorem exec_ret (lv : List Bool) : exec T (.ret lv) s = some (.ret, s.mkSt (clr lv s.env) s.st) := exec_eq T s (fun _ => by rw [execN]) const_lim

theorem exec_reg (ops : List Oper) : exec T (.reg ops) s = (steps (call T) ops ⟨[], s.env, s.st, s.base, s.lim⟩).map (regK s.base s.lim) := by
  refine exec_eq T s (fun n => by rw [execN]) fun r => ?_
  simp only [Option.map_eq_some_iff]
  constructor
  · rintro ⟨x, hx, e⟩
    obtain ⟨n, hn⟩ := steps_lim ops hx
    exact ⟨n, x, hn, e⟩
  · rintro ⟨n, x, hx, e⟩
    exact ⟨x, steps_mono (callN_call T n) ops _ _ hx, e⟩

theorem exec_regd (ps : List (Nat × Nat)) (ops : List Oper) : exec T (.regd ps ops) s = (regD (call T) ps ops ⟨[], s.env, s.st, s.base, s.lim⟩).map (regK s.base s.lim) := by
  refine exec_eq T s (fun n => by rw [execN]) fun r => ?_
  simp only [Option.map_eq_some_iff]
  constructor
  · rintro ⟨x, hx, e⟩
    obtain ⟨n, hn⟩ := regD_lim ps ops hx
    exact ⟨n, x, hn, e⟩
  · rintro ⟨n, x, hx, e⟩
    exact ⟨x, regD_mono (callN_call T n) ps ops _ _ hx, e⟩
theorem exec_spec (sp : Spec) : exec T (.spec sp) s = (specE sp s).map (exTo .normal) := exec_eq T s (fun _ => by rw [execN]) const_lim

theorem exec_seq (a b : Code) : exec T (.seq a b) s = (exec T a s).bind (seqK (exec T b)) := by
  refine exec_eq T s (fun n => by rw [execN]) fun r => bind_lim T s ?_ ?_ r
  · exact fun x n m hnm => seqK_mono (fun s => execN_le T hnm b s) x
  · rintro ⟨e, s'⟩ r
    cases e <;> first | exact exec_some | exact const_lim r

theorem exec_cond (x : X) (a b : Code) : exec T (.cond x a b) s = condK (exec T a) (exec T b) s ((R.mk [] s.env s.st s.base s.lim).get x) := by
  refine exec_eq T s (fun n => by rw [execN]) fun r => ?_
  generalize (R.mk [] s.env s.st s.base s.lim).get x = v
  unfold condK
  split
  · rename_i t
    cases t <;> exact exec_some
  · exact const_lim r

theorem exec_block (id : Nat) (body : Code) : exec T (.block id body) s = (exec T body s).map (blockK id) := by
  refine exec_eq T s (fun n => by rw [execN]) fun r => ?_
  simp only [Option.map_eq_some_iff]
  constructor
  · rintro ⟨x, hx, e⟩
    obtain ⟨n, hn⟩ := exec_some.1 hx
    exact ⟨n, x, hn, e⟩
  · rintro ⟨n, x, hx, e⟩
    exact ⟨x, exec_some.2 ⟨n, hx⟩, e⟩

theorem exec_loop (live : List Bool) (objs : Nat) (body : Code) : exec T (.loop live objs body) s = (exec T body s).bind (loopK (exec T (.loop live objs body)) live objs) := by
  refine exec_eq T s (fun n => by rw [execN]) fun r => bind_lim T s ?_ ?_ r
  · exact fun x n m hnm => loopK_mono (fun s => execN_le T hnm _ s) live objs x
  · rintro ⟨e, s'⟩ r
    cases e
    case normal =>
      simp only [loopK, Option.bind_eq_some_iff]
      constructor
      · rintro ⟨x, hx, h⟩
        obtain ⟨n, hn⟩ := exec_some.1 h
        exact ⟨n, x, hx, hn⟩
      · rintro ⟨n, x, hx, h⟩
        exact ⟨x, hx, exec_some.2 ⟨n, h⟩⟩
    all_goals exact const_lim r

theorem exec_scope (body : Code) : exec T (.scope body) s = exec T (.sc body body) s :=
  exec_eq T s (fun n => by rw [execN]) fun _ => exec_some

theorem exec_sc (body cur : Code) : exec T (.sc body cur) s = (exec T cur s).bind (scK (exec T) body) := by
  refine exec_eq T s (fun n => by rw [execN]) fun r => bind_lim T s ?_ ?_ r
  · exact fun x n m hnm => scK_mono (fun c s => execN_le T hnm c s) body x
  · rintro ⟨e, s'⟩ r
    cases e <;> simp only [scK]
    case goto l =>
      split
      · exact exec_some
      · exact const_lim r
    all_goals exact const_lim r

/-- A loop by its name. -/
theorem loop_eq {c : Code} (live : List Bool) (objs : Nat) (body : Code) (h : c = .loop live objs body) : exec T c s = (exec T body s).bind (loopK (exec T c) live objs) := by
  subst h
  exact exec_loop T s live objs body
theorem sc_eq {c : Code} (body cur : Code) (h : c = .sc body cur) : exec T c s = (exec T cur s).bind (scK (exec T) body) := by
  subst h
  exact exec_sc T s body cur
end eqs

theorem call_eq {T : Nat → Option Entry} {f : Nat} {fn : Fun} (h : T f = some (.fn fn)) (args : List V) (σ : Store) : call T f args σ = if args.length = fn.np then (exec T fn.body (enter fn args σ)).bind (leave fn.raw fn.results) else none := by
  simp only [call, callW, h]

end Go.A
