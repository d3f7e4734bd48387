/- A part of the proof of AffineFinds. Conditions: none. -/
import GoSem.Core.View
set_option linter.all false
open Option renaming bind_eq_some_iff → ya,map_eq_some_iff → yb
open List renaming all_eq_true → yc,replicate → yf,all_cons → yh,range → yi
open Nat renaming le_max_left → yd,le_max_right → ye
open Bool renaming and_eq_true → yg
namespace Go.A
inductive Fz where
 | lit (v : Value)
 | sl (xs : List (List Fz))
 deriving Inhabited
inductive C where
 | f (x : Fz)
 | ap (tok k : Nat) (xs : List (List Fz))
 | ptr (id ver i off : Nat)
 | fp (cs : List Fz) (off : Nat)
 | own (id ver lo n : Nat)
 | map (id : Nat)
 | fn (f : Nat) (first caps : List C)
 | un
 deriving Inhabited
inductive V where
 | one (c : C)
 | agg (cs : List C)
 | tup (vs : List V)
 deriving Inhabited
inductive Ob where
 | cells (ver sz : Nat) (es : List (List C))
 | tok (sz : Nat) (fr : List Nat)
 | mp (es : List (Int × V))
 deriving Inhabited
abbrev zd:=List Ob
inductive X where
 | l (d : Nat)
 | s (t : Nat)
 | c (v : V)
inductive Mode where
 | cl
 | ck
 | op
inductive B where
 | fz
 | tk
 | rw
inductive Op where
 | mv (x : X)
 | pick (c a b : X)
 | bin (op : BinOp) (x y : X)
 | eqa (n : Nat) (neg : Bool) (x y : X)
 | beq (neg : Bool) (x y : X)
 | un (op : UnOp) (x : X)
 | conv (k : IntKind) (x : X)
 | len (x : X)
 | fa (off : Nat) (x : X)
 | ia (sz : Nat) (x i : X)
 | iaa (n sz : Nat) (x i : X)
 | ld (sz : Option Nat) (x : X)
 | st (sz : Nat) (x v : X)
 | al (zero : List C) (fresh : List (Nat × Nat))
 | box (sz : Nat) (x : X)
 | bld (zero : List C) (parts : List (Nat × Nat × X)) (fresh : List (Nat × Nat))
 | bsl (b : B) (sz : Nat) (zero : List (List C)) (parts : List (Nat × X))
 | nl (b : B) (sz : Nat)
 | app (sz : Nat) (s x : X)
 | cpy (sz : Nat) (x y : X)
 | mks (zero : List C) (fresh : Option (Nat × Nat)) (n : X)
 | mkc (sz : Nat) (n : X)
 | slc (sz : Nat) (x : X) (lo hi mx : Option X)
 | ext (x : X) (i : Nat)
 | fld (off : Nat) (sz : Option Nat) (x : X)
 | nil (x : X)
 | mkf (f : Nat) (first caps : List X)
 | mkm
 | lk (zero : V) (ok : Bool) (m k : X)
 | mu (m k v : X)
 | mxn (isMax : Bool) (x y : X)
 | call (m : Mode) (f : X) (args : List X)
 | no (why : String)
inductive D where
 | no
 | loc
 | slot (t : Nat)
structure Oper where
 dst : D
 op : Op
 guard : Option (X × Bool)
structure Spec where
 pre : List Oper
 m : X
 dst : Nat
 off : Nat
 sz : Option Nat
 row : Nat
 ns : List Nat
inductive Code where
 | skip
 | reg (ops : List Oper)
 | regd (ps : List (Nat × Nat)) (ops : List Oper)
 | spec (sp : Spec)
 | seq (a b : Code)
 | cond (c : X) (thn els : Code)
 | block (id : Nat) (body : Code)
 | loop (live : List Bool) (objs : Nat) (body : Code)
 | exit (id : Nat) (live : List Bool) (objs : Nat)
 | scope (body : Code)
 | sc (body cur : Code)
 | label (l : Nat)
 | goto (l : Nat) (live : List Bool) (objs : Nat)
 | ret (live : List Bool)
structure Fun where
 np : Nat
 nslots : Nat
 keep : Nat
 raw : Bool
 results : List (Nat × Option (Option Nat))
 body : Code
inductive Ex where
 | normal
 | exit (id : Nat)
 | goto (l : Nat)
 | ret
 deriving DecidableEq
def LIM : Nat:=4294967296
structure R where
 rs : List V
 env : List V
 st : zd
 base : Nat
 lim : Nat
def vun : V:=.one .un
def R.get (r : R) : X → V
 | .l k => r.rs.getD k vun
 | .s t => r.env.getD t vun
 | .c v => v
def R.put (r : R) : D → V → R
 | .no,_ => { r with rs:=vun :: r.rs }
 | .loc,v => { r with rs:=v :: r.rs }
 | .slot t,v => { r with rs:=vun :: r.rs,env:=r.env.set t v }
def V.cells : V → List C
 | .one c => [c]
 | .agg cs => cs
 | .tup _ => []
mutual
def C.lt (n : Nat) : C → Bool
 | .f _ => true
 | .ap t _ _ => decide (t < n)
 | .ptr id _ _ _ => decide (id < n)
 | .fp _ _ => true
 | .own id _ _ _ => decide (id < n)
 | .map id => decide (id < n)
 | .fn _ a b => C.lts n a && C.lts n b
 | .un => true
def C.lts (n : Nat) : List C → Bool
 | [] => true
 | c :: cs => c.lt n && C.lts n cs
end
mutual
def V.lt (n : Nat) : V → Bool
 | .one c => c.lt n
 | .agg cs => C.lts n cs
 | .tup vs => V.lts n vs
def V.lts (n : Nat) : List V → Bool
 | [] => true
 | v :: vs => v.lt n && V.lts n vs
end
def C.ltss (n : Nat) : List (List C) → Bool
 | [] => true
 | e :: es => C.lts n e && C.ltss n es
def C.ltm (n : Nat) : List (Int × V) → Bool
 | [] => true
 | e :: es => e.2.lt n && C.ltm n es
def Ob.lt (n : Nat) : Ob → Bool
 | .cells _ _ es => C.ltss n es
 | .tok _ _ => true
 | .mp es => C.ltm n es
def Obs.lt (n : Nat) : List Ob → Bool
 | [] => true
 | o :: os => o.lt n && Obs.lt n os
def C.kns : List C → Bool
 | [] => true
 | .un :: _ => false
 | _ :: cs => C.kns cs
def Ob.elem (ver i : Nat) : Ob → Option (List C)
 | .cells ver' _ es => if ver' = ver then es[i]? else none
 | _ => none
def zd.elem (σ : zd) (id ver i : Nat) : Option (List C):=(σ[id]?).bind (Ob.elem ver i)
def zd.cell (σ : zd) (id ver i off : Nat) : Option C:=(σ.elem id ver i).bind (·[off]?)
def zGg (e : List C) (off : Nat) (cs : List C) : Option (List C) :=
 if off + cs.length ≤ e.length then some (e.take off ++ (cs ++ e.drop (off + cs.length))) else none
def upd (ver sz i : Nat) (es : List (List C)) (e : List C) : Ob:=.cells ver sz (es.set i e)
def Ob.write (ver i off : Nat) (cs : List C) : Ob → Option Ob
 | .cells ver' sz es => if ver' = ver then ((es[i]?).bind fun e => zGg e off cs).map (upd ver' sz i es) else none
 | _ => none
def R.setOb (r : R) (id : Nat) (o : Ob) : R:={ r with st:=r.st.set id o }
def R.alloc (r : R) (o : Ob) : R:={ r with st:=r.st ++ [o] }
def R.write (r : R) (id ver i off : Nat) (cs : List C) : Option R :=
 if C.kns cs then ((r.st[id]?).bind (Ob.write ver i off cs)).map (r.setOb id) else none
def zJE (k : IntKind) (n : Int) : C:=.f (.lit (.int k n))
def zER (k : IntKind) (n : Int) : V:=.one (.f (.lit (.int k n)))
def zi4 (b : Bool) : V:=.one (.f (.lit (.bool b)))
def vsl (xs : List (List Fz)) : V:=.one (.f (.sl xs))
def vf (x : Fz) : V:=.one (.f x)
def zDc (xs : List Fz) : V:=.agg (xs.map C.f)
def vfp (e : List Fz) : V:=.one (.fp e 0)
def zIl (c : C) : V:=.one c
def V.c1 : V → C
 | .one c => c
 | _ => .un
def zIK (op : BinOp) (k : IntKind) (a b : Int) : Option V :=
 match op with
 | .add => some (.one (.f (.lit (.int k (k.wrap (a + b))))))
 | .sub => some (.one (.f (.lit (.int k (k.wrap (a - b))))))
 | .mul => some (.one (.f (.lit (.int k (k.wrap (a * b))))))
 | .quo => if b = 0 then none else some (.one (.f (.lit (.int k (k.wrap (a.tdiv b))))))
 | .rem => if b = 0 then none else some (.one (.f (.lit (.int k (a.tmod b)))))
 | .eql => some (.one (.f (.lit (.bool (decide (a = b))))))
 | .neq => some (.one (.f (.lit (.bool (!decide (a = b))))))
 | .lss => some (.one (.f (.lit (.bool (decide (a < b))))))
 | .leq => some (.one (.f (.lit (.bool (decide (a ≤ b))))))
 | .gtr => some (.one (.f (.lit (.bool (decide (b < a))))))
 | .geq => some (.one (.f (.lit (.bool (decide (b ≤ a))))))
 | .and => some (.one (.f (.lit (.int k (k.wrap (BitVec.ofInt k.bits a &&& BitVec.ofInt k.bits b).toNat)))))
 | .or => some (.one (.f (.lit (.int k (k.wrap (BitVec.ofInt k.bits a ||| BitVec.ofInt k.bits b).toNat)))))
 | .xor => some (.one (.f (.lit (.int k (k.wrap (BitVec.ofInt k.bits a ^^^ BitVec.ofInt k.bits b).toNat)))))
 | _ => none
def zA5 (op : BinOp) (k : IntKind) (a b : Int) : Option V :=
 if 0 ≤ b then
  match op with
  | .shl => some (.one (.f (.lit (.int k (k.wrap (a * 2 ^ (min b.toNat k.bits)))))))
  | .shr => some (.one (.f (.lit (.int k (a.fdiv (2 ^ (min b.toNat k.bits)))))))
  | _ => none
 else none
def zJf (op : BinOp) (a b : Bool) : Option V :=
 match op with
 | .eql => some (.one (.f (.lit (.bool (a == b)))))
 | .neq => some (.one (.f (.lit (.bool (a != b)))))
 | _ => none
def zte : BinOp → Bool
 | .shl | .shr => true
 | _ => false
def zIm (op : BinOp) : V → V → Option V
 | .one (.f (.lit (.int k a))),.one (.f (.lit (.int k' b))) => if zte op then zA5 op k a b else if k = k' then zIK op k a b else none
 | _,_ => none
def aun : UnOp → V → Option V
 | .not,.one (.f (.lit (.bool b))) => some (.one (.f (.lit (.bool !b))))
 | .neg,.one (.f (.lit (.int k n))) => some (.one (.f (.lit (.int k (k.wrap (0 - n))))))
 | _,_ => none
def zkw : List C → List C → Option Bool
 | [],[] => some true
 | .f (.lit (.int k a)) :: xs,.f (.lit (.int k' b)) :: ys => if k = k' then (zkw xs ys).map (decide (a = b) && ·) else none
 | _,_ => none
def zIt (neg : Bool) : V → V → Option V
 | .one (.f (.lit (.bool a))),.one (.f (.lit (.bool b))) => some (zi4 (if neg then !(a == b) else a == b))
 | _,_ => none
def zI9 (neg : Bool) : V → Option V
 | .one (.ptr _ _ _ _) => some (zi4 neg)
 | .one (.fp _ _) => some (zi4 neg)
 | .one (.f (.lit (.pointer none))) => some (zi4 (!neg))
 | _ => none
def zH5 (neg b : Bool) : V:=zi4 (if neg then !b else b)
def zIy (n : Nat) (neg : Bool) : V → V → Option V
 | .agg xs,.agg ys => if xs.length = n then (zkw xs ys).map (zH5 neg) else none
 | _,_ => none
abbrev zaq:=Nat → List V → zd → Option (V × zd)
def zyz : C → Option Fz
 | .f x => some x
 | .ap _ _ xs => some (.sl xs)
 | _ => none
def zg6 {α : Type} : Option α → Option (List α) → Option (List α)
 | some x,some xs => some (x :: xs)
 | _,_ => none
def zfR : List C → Option (List Fz)
 | [] => some []
 | c :: cs => zg6 (zyz c) (zfR cs)
def za6 : List (List C) → Option (List (List Fz))
 | [] => some []
 | c :: cs => zg6 (zfR c) (za6 cs)
def Ob.frz (ver lo n : Nat) : Ob → Option (List (List Fz))
 | .cells ver' _ es => if ver' = ver then za6 ((es.drop lo).take n) else none
 | _ => none
def zGV (σ : zd) : V → Option V
 | .one (.own id ver lo n) => ((σ[id]?).bind (Ob.frz ver lo n)).map vsl
 | .one (.fn g [] []) => some (.one (.fn g [] []))
 | .one c => (zyz c).map vf
 | .agg cs => (zfR cs).map zDc
 | .tup _ => none
def zrm (σ : zd) : List V → Option (List V)
 | [] => some []
 | v :: vs => zg6 (zGV σ v) (zrm σ vs)
def elems (σ : zd) : V → Option (List (List Fz))
 | .one (.own id ver lo n) => (σ[id]?).bind (Ob.frz ver lo n)
 | .one (.f (.sl xs)) => some xs
 | .one (.ap _ _ xs) => some xs
 | _ => none
def Ob.front (sz k : Nat) : Ob → Option Nat
 | .tok sz' fr => if sz' = sz then fr[k]? else none
 | _ => none
def Ob.setFront (k n : Nat) : Ob → Ob
 | .tok sz fr => .tok sz (fr.set k n)
 | o => o
def Ob.grow (n : Nat) (ys : List (List C)) : Ob → Ob
 | .cells ver sz es => .cells (ver + 1) sz (es.take n ++ ys)
 | o => o
def Ob.isRow (ver sz : Nat) : Ob → Bool
 | .cells ver' sz' _ => decide (ver' = ver) && decide (sz' = sz)
 | _ => false
def zoY (r : R) (d : D) (sz t k : Nat) (xs ys : List (List Fz)) (o : Ob) : Option R :=
 if o.front sz k = some xs.length ∧ xs.length + ys.length ≤ LIM then some ((r.setOb t (o.setFront k (xs.length + ys.length))).put d (.one (.ap t k (xs ++ ys)))) else none
def zvH (r : R) (d : D) (sz id ver n : Nat) (ys : List (List Fz)) (o : Ob) : Option R :=
 if o.isRow ver sz = true ∧ 0 < n + ys.length ∧ n + ys.length ≤ LIM then some ((r.setOb id (o.grow n (ys.map fun e => e.map C.f))).put d (.one (.own id (ver + 1) 0 (n + ys.length)))) else if o.isRow ver sz = true ∧ n + ys.length = 0 then some (r.put d (.one (.own id ver 0 0))) else none
def ztX (sz : Nat) : List (List Fz) → Bool
 | [] => true
 | e :: es => decide (e.length = sz) && ztX sz es
def zFS (r : R) (d : D) (sz : Nat) (ys : List (List Fz)) : V → Option R
 | .one (.ap t k xs) => (r.st[t]?).bind (zoY r d sz t k xs ys)
 | .one (.own id ver 0 n) => (r.st[id]?).bind (zvH r d sz id ver n ys)
 | .one (.f (.lit (.slice none 0 0))) => if ys.length ≤ LIM then some ((r.alloc (.tok sz [ys.length])).put d (.one (.ap r.st.length 0 ys))) else none
 | _ => none
def zkf (r : R) (d : D) (sz id ver lo k : Nat) (ys : List (List Fz)) : Ob → Option R
 | .cells ver' sz' es => if ver' = ver ∧ sz' = sz ∧ lo + k ≤ es.length then
  some ((r.setOb id (.cells ver sz (es.take lo ++ ((ys.take k).map (fun e => e.map C.f) ++ es.drop (lo + k))))).put d (zER .i64 k)) else none
 | _ => none
def zHd (r : R) (d : D) (sz : Nat) (ys : List (List Fz)) : V → Option R
 | .one (.own id ver lo n) => if min ys.length n = 0 then none else (r.st[id]?).bind (zkf r d sz id ver lo (min ys.length n) ys)
 | _ => none
def zoH (r : R) : List (Nat × Nat × X) → List C → Option (List C)
 | [],cells => some cells
 | (off,sz,x) :: rest,cells => if (r.get x).cells.length = sz ∧ C.kns (r.get x).cells = true then (zGg cells off (r.get x).cells).bind (zoH r rest) else none
def zpk (r : R) (sz : Nat) : List (Nat × X) → List (List C) → Option (List (List C))
 | [],cells => some cells
 | (i,x) :: rest,cells => if i < cells.length ∧ (r.get x).cells.length = sz ∧ C.kns (r.get x).cells = true then zpk r sz rest (cells.set i (r.get x).cells) else none
def zFy (sz : Nat) : Ob:=if 4096 ≤ sz then .cells 0 (sz - 4096) [] else .tok sz [0]
def zG4 (t sz : Nat) : C:=if 4096 ≤ sz then .own t 0 0 0 else .ap t 0 []
def zgP : Nat → List (Nat × Nat) → List C → List C
 | _,[],cs => cs
 | t,j :: js,cs => zgP (t + 1) js (cs.set j.1 (zG4 t j.2))
def tokens : List (Nat × Nat) → List Ob
 | [] => []
 | j :: js => zFy j.2 :: tokens js
def R.allocs (r : R) (os : List Ob) : R:={ r with st:=r.st ++ os }
def aal (r : R) (d : D) (zero : List C) (fresh : List (Nat × Nat)) : R :=
 (r.allocs (tokens fresh ++ [.cells 0 zero.length [zgP r.st.length fresh zero]])).put d (.one (.ptr (r.st.length + fresh.length) 0 0 0))
def zG6 (r : R) (d : D) (fresh : List (Nat × Nat)) (cs : List C) : R:=(r.allocs (tokens fresh)).put d (.agg cs)
def zGI (r : R) (d : D) (xs : List (List Fz)) : R:=r.put d (vsl xs)
def zAN (r : R) (d : D) (sz : Nat) (xs : List (List Fz)) : R:=(r.alloc (.tok sz [xs.length])).put d (.one (.ap r.st.length 0 xs))
def zxC (r : R) (d : D) (sz : Nat) : B → List (List C) → Option R
 | .fz,es => (za6 es).map (zGI r d)
 | .tk,es => (za6 es).map (zAN r d sz)
 | .rw,es => some ((r.alloc (.cells 0 sz es)).put d (.one (.own r.st.length 0 0 es.length)))
def zHV : V → Option V
 | .one (.own _ _ _ n) => some (zER .i64 n)
 | .one (.f (.sl xs)) => some (zER .i64 xs.length)
 | .one (.ap _ _ xs) => some (zER .i64 xs.length)
 | _ => none
def zJm : V → Option V
 | .one (.f (.lit (.string s))) => some (zER .i64 s.size)
 | _ => none
def afa (off : Nat) : V → Option V
 | .one (.ptr id ver i o) => some (.one (.ptr id ver i (o + off)))
 | .one (.fp cs o) => some (.one (.fp cs (o + off)))
 | _ => none
def zIa (sz : Nat) (e : List Fz) : Option V:=if e.length = sz then some (vfp e) else none
def zt4 (id ver sz lo : Nat) (k : Int) (o : Ob) : Option V:=if o.isRow ver sz then some (.one (.ptr id ver (lo + k.toNat) 0)) else none
def aia (σ : zd) (sz : Nat) : V → V → Option V
 | .one (.own id ver lo n),.one (.f (.lit (.int _ k))) => if 0 ≤ k ∧ k < n then (σ[id]?).bind (zt4 id ver sz lo k) else none
 | .one (.f (.sl xs)),.one (.f (.lit (.int _ k))) => if 0 ≤ k then (xs[k.toNat]?).bind (zIa sz) else none
 | .one (.ap _ _ xs),.one (.f (.lit (.int _ k))) => if 0 ≤ k then (xs[k.toNat]?).bind (zIa sz) else none
 | _,_ => none
def zIo (n sz : Nat) : V → V → Option V
 | .one (.ptr id ver j o),.one (.f (.lit (.int _ k))) => if 0 ≤ k ∧ k < n then some (.one (.ptr id ver j (o + k.toNat * sz))) else none
 | .one (.fp cs o),.one (.f (.lit (.int _ k))) => if 0 ≤ k ∧ k < n then some (.one (.fp cs (o + k.toNat * sz))) else none
 | _,_ => none
def cut {α : Type} (o n : Nat) (e : List α) : Option (List α):=if o + n ≤ e.length then some ((e.drop o).take n) else none
def ald (σ : zd) : Option Nat → V → Option V
 | none,.one (.ptr id ver i o) => (σ.cell id ver i o).map zIl
 | none,.one (.fp cs o) => (cs[o]?).map vf
 | some n,.one (.ptr id ver i o) => ((σ.elem id ver i).bind (cut o n)).map V.agg
 | some n,.one (.fp cs o) => (cut o n cs).map zDc
 | _,_ => none
def ast (r : R) (sz : Nat) (cs : List C) : V → Option R
 | .one (.ptr id ver i o) => if cs.length = sz then r.write id ver i o cs else none
 | _ => none
def zJG (r : R) (sz : Nat) (v : V) : Option R:=ast (r.alloc (.tok sz [0])) 1 [.ap r.st.length 0 []] v
def nest (t : Nat) (zero : List C) (j : Nat) (k : Nat) : List C:=zero.set j (.ap t k [])
def zG5 (r : R) (d : D) (zero : List C) : Option (Nat × Nat) → V → Option R
 | none,.one (.f (.lit (.int _ k))) => if 0 ≤ k ∧ k ≤ LIM then some ((r.alloc (.cells 0 zero.length (yf k.toNat zero))).put d (.one (.own r.st.length 0 0 k.toNat))) else none
 | some j,.one (.f (.lit (.int _ k))) => if 0 ≤ k ∧ k ≤ LIM then
  some ((r.allocs [.tok j.2 (yf k.toNat 0),.cells 0 zero.length ((yi k.toNat).map (nest r.st.length zero j.1))]).put d (.one (.own (r.st.length + 1) 0 0 k.toNat))) else none
 | _,_ => none
def zH0 (t : Nat) (zero : List C) (j : Nat) (k : Nat) : List C:=zero.set j (.own (t + k) 0 0 0)
def zJL (r : R) (d : D) (zero : List C) (j sz : Nat) : V → Option R
 | .one (.f (.lit (.int _ k))) => if 0 ≤ k ∧ k ≤ LIM then
  some ((r.allocs (yf k.toNat (.cells 0 sz []) ++ [.cells 0 zero.length ((yi k.toNat).map (zH0 r.st.length zero j))])).put d (.one (.own (r.st.length + k.toNat) 0 0 k.toNat))) else none
 | _ => none
def zHe (r : R) (d : D) (sz : Nat) : V → Option R
 | .one (.f (.lit (.int _ k))) => if 0 ≤ k ∧ k ≤ LIM then some ((r.alloc (.tok sz [0])).put d (.one (.ap r.st.length 0 []))) else none
 | _ => none
def zDx : V → Option Nat
 | .one (.f (.lit (.int _ k))) => if 0 ≤ k then some k.toNat else none
 | _ => none
def bound (r : R) (dflt : Nat) : Option X → Option Nat
 | none => some dflt
 | some x => zDx (r.get x)
def zB7 (sz : Nat) (xs : List (List Fz)) (lo hi : Nat) : Option V:=if lo ≤ hi ∧ hi ≤ xs.length ∧ ztX sz xs = true then some (vsl ((xs.take hi).drop lo)) else none
def zAF (σ : zd) (sz id ver l n lo hi : Nat) : Option V:=if lo ≤ hi ∧ hi ≤ n ∧ (σ[id]?).any (Ob.isRow ver sz) = true then some (.one (.own id ver (l + lo) (hi - lo))) else none
def zH2 (s : ByteArray) (lo hi : Nat) : Option V:=if lo ≤ hi ∧ hi ≤ s.size then some (.one (.f (.lit (.string (s.extract lo hi))))) else none
def two (f : Nat → Nat → Option V) : Option Nat → Option Nat → Option V
 | some a,some b => f a b
 | _,_ => none
def zwk : V → V → Bool
 | .one (.f (.lit (.int k a))),.one (.f (.lit (.int k' b))) => decide (k = k') && decide (a = b)
 | _,_ => false
def zED (r : R) (hi : Option X) : Option X → Bool
 | none => true
 | some m => match hi with
   | some h => zwk (r.get m) (r.get h)
   | none => false
def zHu (r : R) (sz : Nat) (lo hi : Option X) (mx : Bool) : V → Option V
 | .one (.f (.sl xs)) => two (zB7 sz xs) (bound r 0 lo) (bound r xs.length hi)
 | .one (.ap _ _ xs) => two (zB7 sz xs) (bound r 0 lo) (bound r xs.length hi)
 | .one (.own id ver l n) => if mx then none else two (zAF r.st sz id ver l n) (bound r 0 lo) (bound r n hi)
 | _ => none
def zIG (r : R) (lo hi : Option X) : V → Option V
 | .one (.f (.lit (.string s))) => two (zH2 s) (bound r 0 lo) (bound r s.size hi)
 | _ => none
def zJM : V → Bool
 | .one (.f (.sl _)) => true
 | .one (.ap _ _ _) => true
 | _ => false
def zIA (i : Nat) : V → Option V
 | .tup vs => vs[i]?
 | _ => none
def zxz (off : Nat) : Option Nat → V → Option V
 | none,.agg cs => (cs[off]?).map zIl
 | some n,.agg cs => (cut off n cs).map V.agg
 | _,_ => none
def zJN (n : Nat) : V → V → Option V
 | .agg cs,.one (.f (.lit (.int _ k))) => if 0 ≤ k ∧ k < n then (cs[k.toNat]?).map zIl else none
 | _,_ => none
def single (c : Fz) : List Fz:=[c]
def zJO (n lo : Nat) : V → Option V
 | .one (.fp cs 0) => if cs.length = n ∧ lo ≤ n then some (vsl ((cs.drop lo).map single)) else none
 | _ => none
def byteOf : List Fz → Option Int
 | [.lit (.int .u8 n)] => some n
 | _ => none
def bytesOf : List (List Fz) → Option (List Int)
 | [] => some []
 | e :: es => zg6 (byteOf e) (bytesOf es)
def strOf (ns : List Int) : ByteArray:=⟨(ns.map fun n => UInt8.ofNat n.toNat).toArray⟩
def zJA (ns : List Int) : V:=.one (.f (.lit (.string (strOf ns))))
def zJJ (xs : List (List Fz)) : Option V:=(bytesOf xs).map zJA
def zJr (neg : Bool) : V → V → Option V
 | .one (.f (.lit (.string a))),.one (.f (.lit (.string b))) => some (zi4 (if neg then !(a.toList == b.toList) else a.toList == b.toList))
 | _,_ => none
def zAZ (r : R) (d : D) (sz id ver n : Nat) (rows : List (List Fz)) : R:=(r.setOb id (.cells (ver + 1) sz [])).put d (vsl (rows.take n))
def zFt (r : R) (d : D) (sz id ver n : Nat) : Ob → Option R
 | .cells ver' sz' es => if ver' = ver ∧ sz' = sz then (za6 es).map (zAZ r d sz id ver n) else none
 | _ => none
def zJD (r : R) (d : D) (sz : Nat) : V → Option R
 | .one (.own id ver 0 n) => (r.st[id]?).bind (zFt r d sz id ver n)
 | _ => none
def Ob.rows (ver sz : Nat) : Ob → Option (List (List Fz))
 | .cells ver' sz' es => if ver' = ver ∧ sz' = sz then za6 es else none
 | _ => none
def zAK (r : R) (d : D) (sz id ver i o off id2 ver2 n : Nat) (rows : List (List Fz)) : Option R :=
 ((r.setOb id2 (.cells (ver2 + 1) sz [])).write id ver i (o + off) [.f (.sl (rows.take n))]).map fun r => r.put d (.one (.ptr id ver i o))
def zFw (r : R) (d : D) (off sz id ver i o : Nat) : C → Option R
 | .own id2 ver2 0 n => ((r.st[id2]?).bind (Ob.rows ver2 sz)).bind (zAK r d sz id ver i o off id2 ver2 n)
 | .f _ => some (r.put d (.one (.ptr id ver i o)))
 | _ => none
def zJb (r : R) (d : D) (off sz : Nat) : V → Option R
 | .one (.ptr id ver i o) => (r.st.cell id ver i (o + off)).bind (zFw r d off sz id ver i o)
 | _ => none
def zJC (r : R) (d : D) (fs : List Fz) : R:=r.put d (.one (.fp fs 0))
def zIn : V → Option V
 | .one (.ptr id ver i o) => some (.one (.ptr id ver i o))
 | .one (.fp cs o) => some (.one (.fp cs o))
 | .one (.fn f a b) => some (.one (.fn f a b))
 | _ => none
def zEV (a b : V) : V → Option V
 | .one (.f (.lit (.bool t))) => some (if t then a else b)
 | _ => none
def zDE (k : IntKind) : V → Option V
 | .one (.f (.lit (.int _ n))) => some (zER k (k.wrap n))
 | _ => none
def zIq (isMax : Bool) : V → V → Option V
 | .one (.f (.lit (.int k a))),.one (.f (.lit (.int k' b))) => if k = k' then some (zER k (if isMax then max a b else min a b)) else none
 | _,_ => none
def zhb (k : Int) : List (Int × V) → Option V
 | [] => none
 | e :: es => if e.1 = k then some e.2 else zhb k es
def zgq (k : Int) (v : V) : List (Int × V) → List (Int × V)
 | [] => [(k,v)]
 | e :: es => if e.1 = k then (k,v) :: es else e :: zgq k v es
def Ob.entries : Ob → Option (List (Int × V))
 | .mp es => some es
 | _ => none
def zGX (zero : V) (ok : Bool) : Option V → V
 | some v => if ok then .tup [v,zi4 true] else v
 | none => if ok then .tup [zero,zi4 false] else zero
def alk (σ : zd) (zero : V) (ok : Bool) : V → V → Option V
 | .one (.map id),.one (.f (.lit (.int .i64 k))) => ((σ[id]?).bind Ob.entries).map fun es => zGX zero ok (zhb k es)
 | .one (.f (.lit (.map none))),.one (.f (.lit (.int .i64 _))) => some (zGX zero ok none)
 | _,_ => none
def zH3 (r : R) (id : Nat) (k : Int) (v : V) (es : List (Int × V)) : R:=r.setOb id (.mp (zgq k v es))
def amu (r : R) (v : V) : V → V → Option R
 | .one (.map id),.one (.f (.lit (.int .i64 k))) => ((r.st[id]?).bind Ob.entries).map (zH3 r id k v)
 | _,_ => none
mutual
def C.shift (n : Nat) : C → C
 | .f x => .f x
 | .ap t k xs => .ap (t + n) k xs
 | .ptr id ver i o => .ptr (id + n) ver i o
 | .fp cs o => .fp cs o
 | .own id ver lo m => .own (id + n) ver lo m
 | .map id => .map (id + n)
 | .fn g a b => .fn g (C.shifts n a) (C.shifts n b)
 | .un => .un
def C.shifts (n : Nat) : List C → List C
 | [] => []
 | c :: cs => c.shift n :: C.shifts n cs
end
mutual
def V.shift (n : Nat) : V → V
 | .one c => .one (c.shift n)
 | .agg cs => .agg (C.shifts n cs)
 | .tup vs => .tup (V.shifts n vs)
def V.shifts (n : Nat) : List V → List V
 | [] => []
 | v :: vs => v.shift n :: V.shifts n vs
end
def Ob.shift (n : Nat) : Ob → Ob
 | .cells ver sz es => .cells ver sz (es.map (C.shifts n))
 | .tok sz fr => .tok sz fr
 | .mp es => .mp (es.map fun e => (e.1,e.2.shift n))
def zwy : V → Bool
 | .one (.own _ _ _ _) => true
 | _ => false
mutual
def V.plain : V → Bool
 | .one (.f (.lit _)) => true
 | .one _ => false
 | .agg cs => cs.all fun c => match c with
   | .f (.lit _) => true
   | _ => false
 | .tup vs => V.plains vs
def V.plains : List V → Bool
 | [] => true
 | v :: vs => v.plain && V.plains vs
end
def zxe (r : R) (d : D) (lent : Bool) (x : V × zd) : Option R:=if x.2.length = 0 ∧ (lent = false ∨ x.1.plain = true) then some (r.put d x.1) else none
def zx9 (r : R) (d : D) (x : V × zd) : R:={ r with st:=r.st ++ x.2.map (Ob.shift r.st.length) }.put d (x.1.shift r.st.length)
def zxx (r : R) (d : D) (x : V × zd) : R:={ r with st:=x.2 }.put d x.1
def closed (c : zaq) (g : Nat) (aS : List V) : Option (V × zd):=c g aS []
def zpl (call : zaq) (r : R) (d : D) (m : Mode) (args : List V) : V → Option R
 | .one (.fn g first caps) =>
   match m with
   | .cl => ((zrm r.st (first.map V.one ++ (args ++ caps.map V.one))).bind (closed call g)).bind (zxe r d ((first.map V.one ++ (args ++ caps.map V.one)).any zwy))
   | .ck => if (first.map V.one ++ (args ++ caps.map V.one)).any zwy then none else ((zrm r.st (first.map V.one ++ (args ++ caps.map V.one))).bind (closed call g)).map (zx9 r d)
   | .op => (call g (first.map V.one ++ (args ++ caps.map V.one)) r.st).map (zxx r d)
 | _ => none
def R.gets (r : R) : List X → List V
 | [] => []
 | x :: xs => r.get x :: r.gets xs
def anl (r : R) (d : D) (sz : Nat) : B → Option R
 | .tk => some ((r.alloc (.tok sz [0])).put d (.one (.ap r.st.length 0 [])))
 | .rw => some ((r.alloc (.cells 0 sz [])).put d (.one (.own r.st.length 0 0 0)))
 | .fz => some (r.put d (vsl []))
def zbx (call : zaq) (r : R) (d : D) : Op → Option R
 | .mv x => some (r.put d (r.get x))
 | .pick c a b => (zEV (r.get a) (r.get b) (r.get c)).map (r.put d)
 | .bin op x y => (zIm op (r.get x) (r.get y)).map (r.put d)
 | .beq neg x y => (zIt neg (r.get x) (r.get y)).map (r.put d)
 | .eqa n neg x y => (zIy n neg (r.get x) (r.get y)).map (r.put d)
 | .un op x => (aun op (r.get x)).map (r.put d)
 | .conv k x => (zDE k (r.get x)).map (r.put d)
 | .len x => (zHV (r.get x)).map (r.put d)
 | .fa off x => (afa off (r.get x)).map (r.put d)
 | .ia sz x i => (aia r.st sz (r.get x) (r.get i)).map (r.put d)
 | .iaa n sz x i => (zIo n sz (r.get x) (r.get i)).map (r.put d)
 | .ld sz x => (ald r.st sz (r.get x)).map (r.put d)
 | .st sz x v => (ast r sz (r.get v).cells (r.get x)).map fun r => r.put d vun
 | .al zero fresh => some (aal r d zero fresh)
 | .box sz x => if (r.get x).cells.length = sz ∧ C.kns (r.get x).cells = true then some ((r.alloc (.cells 0 sz [(r.get x).cells])).put d (.one (.ptr r.st.length 0 0 0))) else none
 | .bld zero parts fresh => (zoH r parts (zgP r.st.length fresh zero)).map (zG6 r d fresh)
 | .bsl b sz zero parts => (zpk r sz parts zero).bind (zxC r d sz b)
 | .nl b sz => anl r d sz b
 | .app sz s x => (elems r.st (r.get x)).bind fun ys => if ztX sz ys then zFS r d sz ys (r.get s) else none
 | .cpy sz x y => (elems r.st (r.get y)).bind fun ys => if ztX sz ys then zHd r d sz ys (r.get x) else none
 | .mks zero fresh n => zG5 r d zero fresh (r.get n)
 | .mkc sz n => zHe r d sz (r.get n)
 | .slc sz x lo hi mx => if zED r hi mx = true then (zHu r sz lo hi mx.isSome (r.get x)).map (r.put d) else none
 | .ext x i => (zIA i (r.get x)).map (r.put d)
 | .fld off sz x => (zxz off sz (r.get x)).map (r.put d)
 | .nil x => (zIn (r.get x)).map (r.put d)
 | .mkf f first caps => some (r.put d (.one (.fn f ((r.gets first).map V.c1) ((r.gets caps).map V.c1))))
 | .mkm => some ((r.alloc (.mp [])).put d (.one (.map r.st.length)))
 | .lk zero ok m k => (alk r.st zero ok (r.get m) (r.get k)).map (r.put d)
 | .mu m k v => (amu r (r.get v) (r.get m) (r.get k)).map fun r => r.put d vun
 | .mxn isMax x y => (zIq isMax (r.get x) (r.get y)).map (r.put d)
 | .call m f args => zpl call r d m (r.gets args) (r.get f)
 | .no _ => none
def zpa (call : zaq) (r : R) (d : D) (op : Op) (b : Bool) : V → Option R
 | .one (.f (.lit (.bool t))) => if t = b then zbx call r d op else some (r.put d (.tup []))
 | .tup [] => some (r.put d (.tup []))
 | _ => none
def step (call : zaq) (r : R) : Oper → Option R
 | ⟨d,op,none⟩ => zbx call r d op
 | ⟨d,op,some (x,b)⟩ => zpa call r d op b (r.get x)
def steps (call : zaq) : List Oper → R → Option R
 | [],r => some r
 | o :: os,r => (step call r o).bind (steps call os)
def Value.beq : Value → Value → Bool
 | .int k a,.int k' b => decide (k = k') && decide (a = b)
 | .bool a,.bool b => a == b
 | .string a,.string b => decide (a.data.toList = b.data.toList)
 | _,_ => false
mutual
def Fz.beq : Fz → Fz → Bool
 | .lit v,.lit u => Value.beq v u
 | .sl xs,.sl ys => Fz.beqs xs ys
 | _,_ => false
def Fz.beqR : List Fz → List Fz → Bool
 | [],[] => true
 | x :: xs,y :: ys => x.beq y && Fz.beqR xs ys
 | _,_ => false
def Fz.beqs : List (List Fz) → List (List Fz) → Bool
 | [],[] => true
 | x :: xs,y :: ys => Fz.beqR x y && Fz.beqs xs ys
 | _,_ => false
end
def C.beq : C → C → Bool
 | .f x,.f y => x.beq y
 | .ap t k xs,.ap t' k' ys => decide (t = t') && decide (k = k') && Fz.beqs xs ys
 | .ptr a b c d,.ptr a' b' c' d' => decide (a = a') && decide (b = b') && decide (c = c') && decide (d = d')
 | .fp xs o,.fp ys o' => Fz.beqR xs ys && decide (o = o')
 | .own a b c d,.own a' b' c' d' => decide (a = a') && decide (b = b') && decide (c = c') && decide (d = d')
 | .map a,.map b => decide (a = b)
 | _,_ => false
def C.beqs : List C → List C → Bool
 | [],[] => true
 | x :: xs,y :: ys => x.beq y && C.beqs xs ys
 | _,_ => false
def V.beq : V → V → Bool
 | .one c,.one d => c.beq d
 | .agg cs,.agg ds => C.beqs cs ds
 | _,_ => false
def zt8 : zaq:=fun _ _ _ => none
def zoi : Option R → Option R → Bool
 | some a,some b => (a.rs.headD vun).beq (b.rs.headD vun)
 | _,_ => false
def zb8 (c : zaq) (ops : List Oper) (r : R) (p : Nat × Nat) : Bool:=match steps c (ops.take p.1) r,steps c (ops.take p.2) r,ops[p.1]? with
 | some rj,some rk,some x => zoi (step zt8 { rj with st:=rk.st } x) (step zt8 rj x)
 | _,_,_ => false
def zvN (c : zaq) (ps : List (Nat × Nat)) (ops : List Oper) (r : R) : Option R:=(steps c ops r).bind fun r1 => if ps.all (zb8 c ops r) then some r1 else none
structure St where
 env : List V
 st : zd
 base : Nat
 lim : Nat
def clr : List Bool → List V → List V
 | [],_ => []
 | true :: bs,v :: vs => v :: clr bs vs
 | false :: bs,_ :: vs => vun :: clr bs vs
 | _,[] => []
def zl8 (n : Nat) (env : List V) (σ : zd) : Option zd :=
 if σ.length ≤ n then some σ else if V.lts n env && Obs.lt n (σ.take n) then some (σ.take n) else none
def St.mkSt (s : St) (env : List V) (σ : zd) : St:={ s with env:=env,st:=σ }
def St.clear (s : St) (live : List Bool) (objs : Nat) : Option St :=
 (zl8 (s.base + objs) (clr live s.env) s.st).map (s.mkSt (clr live s.env))
def zG1 (e : Ex) (s : St) : Ex × St:=(e,s)
def findLabel : Code → Nat → Option Code
 | .seq a b,l => match findLabel a l with
   | some rest => some (.seq rest b)
   | none => findLabel b l
 | .label l',l => if l' = l then some .skip else none
 | _,_ => none
def enter (fn : Fun) (args : List V) (σ : zd) : St:=⟨args ++ yf (fn.nslots - args.length) vun,σ,σ.length,σ.length + fn.keep⟩
def zDS (lim : Nat) (σ : zd) : C → Option Fz
 | .own id ver lo n => if lim ≤ id then ((σ[id]?).bind (Ob.frz ver lo n)).map Fz.sl else none
 | c => zyz c
def zjT (lim : Nat) (σ : zd) : List C → Option (List Fz)
 | [] => some []
 | c :: cs => zg6 (zDS lim σ c) (zjT lim σ cs)
def zFo (lim : Nat) (σ : zd) : V → Option V
 | .one (.own id ver lo n) => if lim ≤ id then ((σ[id]?).bind (Ob.frz ver lo n)).map vsl else none
 | .one (.ap _ _ xs) => some (vsl xs)
 | .agg cs => (zjT lim σ cs).map zDc
 | v => some v
def zuD (σ : zd) (env : List V) : Nat × Option (Option Nat) → Option V
 | (t,none) => some (env.getD t vun)
 | (t,some sz) => ald σ sz (env.getD t vun)
def zBr (raw : Bool) (lim : Nat) (σ : zd) (v : V) : Option V:=if raw then some v else zFo lim σ v
def outs (raw : Bool) (lim : Nat) (σ : zd) (env : List V) : List (Nat × Option (Option Nat)) → Option (List V)
 | [] => some []
 | t :: ts => zg6 ((zuD σ env t).bind (zBr raw lim σ)) (outs raw lim σ env ts)
def zFm : List V → V
 | [v] => v
 | vs => .tup vs
def zk3 (lim : Nat) (σ : zd) (vs : List V) : Option (V × zd):=(zl8 lim vs σ).map fun σ' => (zFm vs,σ')
def leave (raw : Bool) (res : List (Nat × Option (Option Nat))) : Ex × St → Option (V × zd)
 | (.normal,s) => (outs raw s.lim s.st s.env res).bind (zk3 s.lim s.st)
 | (.ret,s) => (outs raw s.lim s.st s.env res).bind (zk3 s.lim s.st)
 | _ => none
inductive Entry where
 | fn (f : Fun)
 | ext (f : List V → zd → Option (V × zd))
def zgi (T : Nat → Option Entry) (E : Code → St → Option (Ex × St)) : zaq:=fun f args σ =>
 match T f with
 | some (.fn fn) => if args.length = fn.np then (E fn.body (enter fn args σ)).bind (leave fn.raw fn.results) else none
 | some (.ext g) => g args σ
 | none => none
def zri (E : St → Option (Ex × St)) : Ex × St → Option (Ex × St)
 | (.normal,s) => E s
 | (.exit i,s) => some (.exit i,s)
 | (.goto i,s) => some (.goto i,s)
 | (.ret,s) => some (.ret,s)
def zsM (A B : St → Option (Ex × St)) (s : St) : V → Option (Ex × St)
 | .one (.f (.lit (.bool t))) => if t then A s else B s
 | _ => none
def zuu (id : Nat) : Ex × St → Ex × St
 | (.exit id',s) => if id' = id then (.normal,s) else (.exit id',s)
 | r => r
def zpZ (E : St → Option (Ex × St)) (live : List Bool) (objs : Nat) : Ex × St → Option (Ex × St)
 | (.normal,s) => (s.clear live objs).bind E
 | (.exit i,s) => some (.exit i,s)
 | (.goto i,s) => some (.goto i,s)
 | (.ret,s) => some (.ret,s)
def scK (E : Code → St → Option (Ex × St)) (body : Code) : Ex × St → Option (Ex × St)
 | (.goto l,s) => match findLabel body l with
   | some rest => E (.sc body rest) s
   | none => some (.goto l,s)
 | r => some r
def zC4 (base lim : Nat) (r : R) : Ex × St:=(.normal,⟨r.env,r.st,base,lim⟩)
def ziv (off : Nat) (sz : Option Nat) (row : Nat) : List (Int × V) → List (Int × V) → Option (List (Int × V))
 | [],ds => some ds
 | e :: es,ds => if e.2.cells.length = row ∧ C.kns e.2.cells = true then (zxz off sz e.2).bind fun v => ziv off sz row es (zgq e.1 v ds) else none
def zxg (sp : Spec) (s : St) (σ : zd) : V → V → Option St
 | .one (.map id),.one (.map id') => if id = id' then none else
  ((σ[id]?).bind Ob.entries).bind fun es => ((σ[id']?).bind Ob.entries).bind fun ds => (ziv sp.off sp.sz sp.row es ds).map fun ds' => s.mkSt s.env (σ.set id' (.mp ds'))
 | _,_ => none
def zu7 (sp : Spec) (s : St) : Option St:=(steps zt8 sp.pre ⟨[],s.env,s.st,s.base,s.lim⟩).bind fun r => zxg sp (s.mkSt r.env r.st) r.st (r.get sp.m) (r.env.getD sp.dst vun)
def z6 (T : Nat → Option Entry) : Nat → Code → St → Option (Ex × St)
 | 0,_,_ => none
 | n + 1,c,s =>
   match c with
   | .skip => some (.normal,s)
   | .reg ops => (steps (zgi T (z6 T n)) ops ⟨[],s.env,s.st,s.base,s.lim⟩).map (zC4 s.base s.lim)
   | .regd ps ops => (zvN (zgi T (z6 T n)) ps ops ⟨[],s.env,s.st,s.base,s.lim⟩).map (zC4 s.base s.lim)
   | .spec sp => (zu7 sp s).map (zG1 .normal)
   | .seq a b => (z6 T n a s).bind (zri (z6 T n b))
   | .cond x a b => zsM (z6 T n a) (z6 T n b) s ((R.mk [] s.env s.st s.base s.lim).get x)
   | .block id body => (z6 T n body s).map (zuu id)
   | .loop live objs body => (z6 T n body s).bind (zpZ (z6 T n (.loop live objs body)) live objs)
   | .exit id live objs => (s.clear live objs).map (zG1 (.exit id))
   | .scope body => z6 T n (.sc body body) s
   | .sc body cur => (z6 T n cur s).bind (scK (z6 T n) body)
   | .label _ => some (.normal,s)
   | .goto l live objs => (s.clear live objs).map (zG1 (.goto l))
   | .ret live => some (.ret,s.mkSt (clr live s.env) s.st)
def Le {α : Type} (a b : Option α) : Prop:=∀ r,a = some r → b = some r
theorem Le.refl {α : Type} (a : Option α) : Le a a:=fun _ h => h
theorem Le.bind {α β : Type} {a b : Option α} {K c : α → Option β} (h : Le a b) (f : ∀ x,Le (K x) (c x)) : Le (a.bind K) (b.bind c):=by
 intro r d;rw [ya] at d ⊢;obtain ⟨x,e,g⟩:=d;exact ⟨x,h x e,f x r g⟩
theorem Le.map {α β : Type} {a b : Option α} (h : Le a b) (f : α → β) : Le (a.map f) (b.map f):=by
 intro r c;rw [yb] at c ⊢;obtain ⟨x,d,e⟩:=c;exact ⟨x,h x d,e⟩
def LeC (c c' : zaq) : Prop:=∀ f a σ,Le (c f a σ) (c' f a σ)
theorem zyL {c a : zaq} (h : LeC c a) (r : R) (d : D) (m : Mode) (aS : List V) (v : V) : Le (zpl c r d m aS v) (zpl a r d m aS v):=by
 unfold zpl;split
 ·cases m
  ·exact ((Le.refl _).bind fun aS => h _ _ _).bind fun _ => Le.refl _
  ·dsimp only
   split
   ·exact Le.refl _
   ·exact ((Le.refl _).bind fun aS => h _ _ _).map _
  ·exact (h _ _ _).map _
 ·exact Le.refl _
theorem zp1 {c a : zaq} (h : LeC c a) (r : R) (d : D) (o : Op) : Le (zbx c r d o) (zbx a r d o):=by
 cases o
 case call m f args => exact zyL h r d m _ _
 all_goals exact Le.refl _
theorem znI {c a : zaq} (h : LeC c a) (r : R) (o : Oper) : Le (step c r o) (step a r o):=by
 obtain ⟨d,op,g⟩:=o
 cases g with
 | none => exact zp1 h r d op
 | some g =>
   obtain ⟨x,b⟩:=g;simp only [step];generalize r.get x = v;unfold zpa;split
   ·split
    ·exact zp1 h r d op
    ·exact Le.refl _
   ·exact Le.refl _
   ·exact Le.refl _
theorem zdU {c a : zaq} (h : LeC c a) : ∀ (os : List Oper) (r : R),Le (steps c os r) (steps a os r)
 | [],_ => Le.refl _
 | o :: os,r => (znI h r o).bind fun x => zdU h os x
theorem zjW {c b : zaq} (h : LeC c b) (ops : List Oper) (r : R) (p : Nat × Nat) (a : zb8 c ops r p = true) : zb8 b ops r p = true:=by
 unfold zb8 at a ⊢;split at a
 ·rename_i g i x f d e
  rw [zdU h _ _ _ f,zdU h _ _ _ d,e];exact a
 ·cases a
theorem zux {c d : zaq} (h : LeC c d) (e : List (Nat × Nat)) (ops : List Oper) (r : R) : Le (zvN c e ops r) (zvN d e ops r):=by
 intro r1 b;unfold zvN at b ⊢;rw [ya] at b ⊢;obtain ⟨g,j,a⟩:=b;refine ⟨g,zdU h _ _ _ j,?_⟩;split at a
 ·rename_i f
  rw [if_pos (yc.2 fun p i => zjW h _ _ _ (yc.1 f p i))];exact a
 ·cases a
theorem zlE {T : Nat → Option Entry} {E b : Code → St → Option (Ex × St)} (h : ∀ c s,Le (E c s) (b c s)) : LeC (zgi T E) (zgi T b):=by
 intro f a σ;unfold zgi;split
 ·split
  ·exact (h _ _).bind fun _ => Le.refl _
  ·exact Le.refl _
 ·exact Le.refl _
 ·exact Le.refl _
theorem zvg {E a : St → Option (Ex × St)} (h : ∀ s,Le (E s) (a s)) (x : Ex × St) : Le (zri E x) (zri a x):=by
 obtain ⟨e,s⟩:=x
 cases e <;> first | exact h s | exact Le.refl _
theorem zr6 {E b : St → Option (Ex × St)} (h : ∀ s,Le (E s) (b s)) (c : List Bool) (a : Nat) (x : Ex × St) : Le (zpZ E c a x) (zpZ b c a x):=by
 obtain ⟨e,s⟩:=x
 cases e <;> first | exact (Le.refl _).bind h | exact Le.refl _
theorem zyH {A a B b : St → Option (Ex × St)} (h : ∀ s,Le (A s) (a s)) (c : ∀ s,Le (B s) (b s)) (s : St) (v : V) : Le (zsM A B s v) (zsM a b s v):=by
 unfold zsM;split
 ·split
  ·exact h s
  ·exact c s
 ·exact Le.refl _
theorem zxi {E a : Code → St → Option (Ex × St)} (h : ∀ c s,Le (E c s) (a c s)) (body : Code) (x : Ex × St) : Le (scK E body x) (scK a body x):=by
 obtain ⟨e,s⟩:=x;cases e <;> simp only [scK]
 case goto l =>
  split
  ·exact h _ _
  ·exact Le.refl _
 all_goals exact Le.refl _
theorem zsq (T : Nat → Option Entry) : ∀ (n : Nat) (c : Code) (s : St),Le (z6 T n c s) (z6 T (n + 1) c s)
 | 0,_,_ => fun r h => by simp [z6] at h
 | n + 1,c,s => by
   have d:=zsq T n;cases c <;> simp only [z6]
   case reg ops => exact (zdU (zlE d) ops _).map _
   case regd ps ops => exact (zux (zlE d) ps ops _).map _
   case seq a b => exact (d a s).bind (zvg (d b))
   case cond x a b => exact zyH (d a) (d b) s _
   case block id body => exact (d body s).map _
   case loop lv ob body => exact (d body s).bind (zr6 (d _) lv ob)
   case scope body => exact d _ _
   case sc body cur => exact (d cur s).bind (zxi d body)
   all_goals exact Le.refl _
theorem zjL (T : Nat → Option Entry) {n m : Nat} (a : n ≤ m) (c : Code) (s : St) : Le (z6 T n c s) (z6 T m c s):=by
 induction a with
 | refl => exact Le.refl _
 | step _ ih => exact fun r h => zsq T _ _ _ r (ih r h)
open Classical in
noncomputable def exec (T : Nat → Option Entry) (c : Code) (s : St) : Option (Ex × St) :=
 if h : ∃ r n,z6 T n c s = some r then some h.choose else none
theorem zcU {T : Nat → Option Entry} {c : Code} {s : St} {r : Ex × St} : exec T c s = some r ↔ ∃ n,z6 T n c s = some r:=by
 unfold exec;constructor
 ·intro h
  split at h
  ·rename_i a
   injection h with h;subst h;exact a.choose_spec
  ·cases h
 ·rintro ⟨n,b⟩
  have a : ∃ r n,z6 T n c s = some r:=⟨r,n,b⟩;rw [dif_pos a];obtain ⟨m,hm⟩:=a.choose_spec;have e:=zjL T (yd n m) _ _ _ b;have d:=zjL T (ye n m) _ _ _ hm;rw [e] at d;exact d.symm
noncomputable def call (T : Nat → Option Entry) : zaq:=zgi T (exec T)
theorem zD5 {α : Type} {a b : Option α} (h : ∀ r,a = some r ↔ b = some r) : a = b:=by
 cases a with
 | none => cases b with
   | none => rfl
   | some y => exact ((h y).2 rfl)
 | some x => exact ((h x).1 rfl).symm
theorem zth {T : Nat → Option Entry} {f : Nat} {a : List V} {σ : zd} {r : V × zd} (h : call T f a σ = some r) : ∃ n,zgi T (z6 T n) f a σ = some r:=by
 unfold call zgi at h;unfold zgi;split at h
 ·split at h
  ·rename_i b
   simp only [if_pos b,ya] at h ⊢;obtain ⟨x,c,e⟩:=h;obtain ⟨n,d⟩:=zcU.1 c;exact ⟨n,x,d,e⟩
  ·cases h
 ·exact ⟨0,h⟩
 ·cases h
theorem zjo (T : Nat → Option Entry) {n m : Nat} (h : n ≤ m) : LeC (zgi T (z6 T n)) (zgi T (z6 T m)):=zlE fun c s => zjL T h c s
theorem zlF (T : Nat → Option Entry) (n : Nat) : LeC (zgi T (z6 T n)) (call T):=zlE fun _ _ _ a => zcU.2 ⟨n,a⟩
theorem zAg {T : Nat → Option Entry} {r : R} {d : D} {m : Mode} {aS : List V} {v : V} {x : R} (a : zpl (call T) r d m aS v = some x) : ∃ n,zpl (zgi T (z6 T n)) r d m aS v = some x:=by
 unfold zpl at a ⊢;split at a
 ·cases m
  ·simp only [ya] at a ⊢
   obtain ⟨y,⟨aS,g,b⟩,e⟩:=a;obtain ⟨n,f⟩:=zth b;exact ⟨n,y,⟨aS,g,f⟩,e⟩
  ·dsimp only at a ⊢
   split at a
   ·cases a
   ·rename_i c
    simp only [if_neg c,yb,ya] at a ⊢;obtain ⟨y,⟨aS,g,b⟩,e⟩:=a;obtain ⟨n,f⟩:=zth b;exact ⟨n,y,⟨aS,g,f⟩,e⟩
  ·simp only [yb] at a ⊢
   obtain ⟨y,b,e⟩:=a;obtain ⟨n,f⟩:=zth b;exact ⟨n,y,f,e⟩
 ·cases a
theorem zsb {T : Nat → Option Entry} {r : R} {d : D} {o : Op} {x : R} (a : zbx (call T) r d o = some x) : ∃ n,zbx (zgi T (z6 T n)) r d o = some x:=by
 cases o
 case call m f args => exact zAg a
 all_goals exact ⟨0,a⟩
theorem zDr {T : Nat → Option Entry} {r : R} {o : Oper} {x : R} (a : step (call T) r o = some x) : ∃ n,step (zgi T (z6 T n)) r o = some x:=by
 obtain ⟨d,op,g⟩:=o
 cases g with
 | none => exact zsb a
 | some g =>
   obtain ⟨y,b⟩:=g;simp only [step] at a ⊢;generalize r.get y = v at a ⊢;unfold zpa at a ⊢;split at a
   ·split at a
    ·rename_i h
     obtain ⟨n,c⟩:=zsb a;exact ⟨n,by rw [if_pos h]; exact c⟩
    ·rename_i h
     exact ⟨0,by rw [if_neg h]; exact a⟩
   ·exact ⟨0,a⟩
   ·cases a
theorem zkC {T : Nat → Option Entry} : ∀ (os : List Oper) {r x : R},steps (call T) os r = some x → ∃ n,steps (zgi T (z6 T n)) os r = some x
 | [],_,_,hs => ⟨0,hs⟩
 | o :: os,r,x,hs => by
   simp only [steps,ya] at hs ⊢;obtain ⟨r1,b,c⟩:=hs;obtain ⟨n,a⟩:=zDr b;obtain ⟨m,hm⟩:=zkC os c;exact ⟨max n m,r1,znI (zjo T (yd n m)) _ _ _ a,zdU (zjo T (ye n m)) os _ _ hm⟩
theorem zEp {T : Nat → Option Entry} (c : List (Nat × Nat)) (os : List Oper) {r x : R} (k : zvN (call T) c os r = some x) : ∃ n,zvN (zgi T (z6 T n)) c os r = some x:=by
 unfold zvN at k;rw [ya] at k;obtain ⟨u,t,d⟩:=k;split at d
 ·rename_i f
  injection d with d;subst d;obtain ⟨n,l⟩:=zkC os t
  have e : ∀ c : List (Nat × Nat),c.all (zb8 (call T) os r) = true → ∃ m,c.all (zb8 (zgi T (z6 T m)) os r) = true:=by
   intro c
   induction c with
   | nil => exact fun _ => ⟨0,rfl⟩
   | cons p c ih =>
     intro f;simp only [yh,yg] at f;obtain ⟨m,hm⟩:=ih f.2;have g:=f.1;unfold zb8 at g;split at g
     ·rename_i v w x q o s
      obtain ⟨a,j⟩:=zkC _ q;obtain ⟨b,h⟩:=zkC _ o;refine ⟨max m (max a b),?_⟩;simp only [yh,yg];refine ⟨?_,yc.2 fun p i => zjW (zjo T (yd m _)) _ _ _ (yc.1 hm p i)⟩;unfold zb8;rw [zdU (zjo T (by omega : a ≤ max m (max a b))) _ _ _ j,zdU (zjo T (by omega : b ≤ max m (max a b))) _ _ _ h,s];exact g
     ·cases g
  obtain ⟨m,hm⟩:=e c f;refine ⟨max n m,?_⟩;unfold zvN;rw [zdU (zjo T (yd n m)) _ _ _ l];simp only [Option.bind_some];rw [if_pos (yc.2 fun p i => zjW (zjo T (ye n m)) _ _ _ (yc.1 hm p i))]
 ·cases d
section eqs
variable (T : Nat → Option Entry) (s : St)
theorem zf7 {c : Code} {F : Nat → Option (Ex × St)} {L : Option (Ex × St)} (b : ∀ n,z6 T (n + 1) c s = F n) (d : ∀ r,L = some r ↔ ∃ n,F n = some r) : exec T c s = L:=by
 refine zD5 fun r => ?_;rw [zcU,d];constructor
 ·rintro ⟨n,a⟩
  cases n with
  | zero => simp [z6] at a
  | succ n => exact ⟨n,by rw [← b]; exact a⟩
 ·rintro ⟨n,a⟩
  exact ⟨n + 1,by rw [b]; exact a⟩
theorem ztf {β : Type} {c : Code} {G : Nat → Ex × St → Option β} {K : Ex × St → Option β} (f : ∀ x n m,n ≤ m → Le (G n x) (G m x)) (b : ∀ x r,K x = some r ↔ ∃ n,G n x = some r) (r : β) :
  (exec T c s).bind K = some r ↔ ∃ n,(z6 T n c s).bind (G n) = some r:=by
 simp only [ya];constructor
 ·rintro ⟨x,a,g⟩
  obtain ⟨n,e⟩:=zcU.1 a;obtain ⟨m,hm⟩:=(b _ _).1 g;exact ⟨max n m,x,zjL T (yd n m) _ _ _ e,f _ _ _ (ye n m) _ hm⟩
 ·rintro ⟨n,x,a,d⟩
  exact ⟨x,zcU.2 ⟨n,a⟩,(b _ _).2 ⟨n,d⟩⟩
theorem zeC {α : Type} {L : Option α} (r : α) : L = some r ↔ ∃ _n : Nat,L = some r:=⟨fun h => ⟨0,h⟩,fun ⟨_,h⟩ => h⟩
theorem zhL : exec T .skip s = some (.normal,s):=zf7 T s (fun _ => by rw [z6]) zeC
theorem zrW (l : Nat) : exec T (.label l) s = some (.normal,s):=zf7 T s (fun _ => by rw [z6]) zeC
theorem zAB (l : Nat) (b : List Bool) (a : Nat) : exec T (.goto l b a) s = (s.clear b a).map (zG1 (.goto l)):=zf7 T s (fun _ => by rw [z6]) zeC
theorem zAt (l : Nat) (b : List Bool) (a : Nat) : exec T (.exit l b a) s = (s.clear b a).map (zG1 (.exit l)):=zf7 T s (fun _ => by rw [z6]) zeC
theorem zEh (a : List Bool) : exec T (.ret a) s = some (.ret,s.mkSt (clr a s.env) s.st):=zf7 T s (fun _ => by rw [z6]) zeC
theorem zDu (ops : List Oper) : exec T (.reg ops) s = (steps (call T) ops ⟨[],s.env,s.st,s.base,s.lim⟩).map (zC4 s.base s.lim):=by
 refine zf7 T s (fun n => by rw [z6]) fun r => ?_;simp only [yb];constructor
 ·rintro ⟨x,a,e⟩
  obtain ⟨n,b⟩:=zkC ops a;exact ⟨n,x,b,e⟩
 ·rintro ⟨n,x,a,e⟩
  exact ⟨x,zdU (zlF T n) ops _ _ a,e⟩
theorem zng (a : List (Nat × Nat)) (ops : List Oper) : exec T (.regd a ops) s = (zvN (call T) a ops ⟨[],s.env,s.st,s.base,s.lim⟩).map (zC4 s.base s.lim):=by
 refine zf7 T s (fun n => by rw [z6]) fun r => ?_;simp only [yb];constructor
 ·rintro ⟨x,b,e⟩
  obtain ⟨n,c⟩:=zEp a ops b;exact ⟨n,x,c,e⟩
 ·rintro ⟨n,x,b,e⟩
  exact ⟨x,zux (zlF T n) a ops _ _ b,e⟩
theorem zCf (sp : Spec) : exec T (.spec sp) s = (zu7 sp s).map (zG1 .normal):=zf7 T s (fun _ => by rw [z6]) zeC
theorem zdI (a b : Code) : exec T (.seq a b) s = (exec T a s).bind (zri (exec T b)):=by
 refine zf7 T s (fun n => by rw [z6]) fun r => ztf T s ?_ ?_ r
 ·exact fun x n m c => zvg (fun s => zjL T c b s) x
 ·rintro ⟨e,d⟩ r
  cases e <;> first | exact zcU | exact zeC r
theorem zq0 (x : X) (a b : Code) : exec T (.cond x a b) s = zsM (exec T a) (exec T b) s ((R.mk [] s.env s.st s.base s.lim).get x):=by
 refine zf7 T s (fun n => by rw [z6]) fun r => ?_;generalize (R.mk [] s.env s.st s.base s.lim).get x = v;unfold zsM;split
 ·rename_i t
  cases t <;> exact zcU
 ·exact zeC r
theorem zsk (id : Nat) (body : Code) : exec T (.block id body) s = (exec T body s).map (zuu id):=by
 refine zf7 T s (fun n => by rw [z6]) fun r => ?_;simp only [yb];constructor
 ·rintro ⟨x,a,e⟩
  obtain ⟨n,b⟩:=zcU.1 a;exact ⟨n,x,b,e⟩
 ·rintro ⟨n,x,a,e⟩
  exact ⟨x,zcU.2 ⟨n,a⟩,e⟩
theorem zqv (live : List Bool) (a : Nat) (body : Code) : exec T (.loop live a body) s = (exec T body s).bind (zpZ (exec T (.loop live a body)) live a):=by
 refine zf7 T s (fun n => by rw [z6]) fun r => ztf T s ?_ ?_ r
 ·exact fun x n m b => zr6 (fun s => zjL T b _ s) live a x
 ·rintro ⟨e,f⟩ r
  cases e
  case normal =>
   simp only [zpZ,ya];constructor
   ·rintro ⟨x,c,h⟩
    obtain ⟨n,d⟩:=zcU.1 h;exact ⟨n,x,c,d⟩
   ·rintro ⟨n,x,c,h⟩
    exact ⟨x,c,zcU.2 ⟨n,h⟩⟩
  all_goals exact zeC r
theorem zoK (body : Code) : exec T (.scope body) s = exec T (.sc body body) s :=
 zf7 T s (fun n => by rw [z6]) fun _ => zcU
theorem zhH (body cur : Code) : exec T (.sc body cur) s = (exec T cur s).bind (scK (exec T) body):=by
 refine zf7 T s (fun n => by rw [z6]) fun r => ztf T s ?_ ?_ r
 ·exact fun x n m a => zxi (fun c s => zjL T a c s) body x
 ·rintro ⟨e,b⟩ r
  cases e <;> simp only [scK]
  case goto l =>
   split
   ·exact zcU
   ·exact zeC r
  all_goals exact zeC r
end eqs
theorem ze {T : Nat → Option Entry} {f : Nat} {fn : Fun} (h : T f = some (.fn fn)) (args : List V) (σ : zd) : call T f args σ = if args.length = fn.np then (exec T fn.body (enter fn args σ)).bind (leave fn.raw fn.results) else none:=by
 simp only [call,zgi,h]
end Go.A
