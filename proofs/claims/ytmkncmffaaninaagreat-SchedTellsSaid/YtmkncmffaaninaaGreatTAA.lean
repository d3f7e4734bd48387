/- A part of the proof of SchedTells. Conditions: none. -/
import GoSem.Core.View
set_option linter.all false
open Option renaming bind_eq_some_iff → ya,map_eq_some_iff → yb
open List renaming all_eq_true → yc,replicate → yf,all_cons → yh,range → yi
open Nat renaming le_max_left → yd,le_max_right → ye
open Bool renaming and_eq_true → yg
namespace Go.A
inductive Fz where
 | lit (v : Value)
 | sl (xs : List (List Fz))
 deriving Inhabited
inductive C where
 | f (x : Fz)
 | ap (tok k : Nat) (xs : List (List Fz))
 | ptr (id ver i off : Nat)
 | fp (cs : List Fz) (off : Nat)
 | own (id ver lo n : Nat)
 | map (id : Nat)
 | fn (f : Nat) (first caps : List C)
 | un
 deriving Inhabited
inductive V where
 | one (c : C)
 | agg (cs : List C)
 | tup (vs : List V)
 deriving Inhabited
inductive Ob where
 | cells (ver sz : Nat) (es : List (List C))
 | tok (sz : Nat) (fr : List Nat)
 | mp (es : List (Int × V))
 deriving Inhabited
abbrev zd:=List Ob
inductive X where
 | l (d : Nat)
 | s (t : Nat)
 | c (v : V)
inductive Mode where
 | cl
 | ck
 | op
inductive B where
 | fz
 | tk
 | rw
inductive Op where
 | mv (x : X)
 | pick (c a b : X)
 | bin (op : BinOp) (x y : X)
 | eqa (n : Nat) (neg : Bool) (x y : X)
 | beq (neg : Bool) (x y : X)
 | un (op : UnOp) (x : X)
 | conv (k : IntKind) (x : X)
 | len (x : X)
 | fa (off : Nat) (x : X)
 | ia (sz : Nat) (x i : X)
 | iaa (n sz : Nat) (x i : X)
 | ld (sz : Option Nat) (x : X)
 | st (sz : Nat) (x v : X)
 | al (zero : List C) (fresh : List (Nat × Nat))
 | box (sz : Nat) (x : X)
 | bld (zero : List C) (parts : List (Nat × Nat × X)) (fresh : List (Nat × Nat))
 | bsl (b : B) (sz : Nat) (zero : List (List C)) (parts : List (Nat × X))
 | nl (b : B) (sz : Nat)
 | app (sz : Nat) (s x : X)
 | cpy (sz : Nat) (x y : X)
 | mks (zero : List C) (fresh : Option (Nat × Nat)) (n : X)
 | mkc (sz : Nat) (n : X)
 | mkr (zero : List C) (j sz : Nat) (n : X)
 | slc (sz : Nat) (x : X) (lo hi mx : Option X)
 | ext (x : X) (i : Nat)
 | fld (off : Nat) (sz : Option Nat) (x : X)
 | stn (sz : Nat) (x : X)
 | nil (x : X)
 | mkf (f : Nat) (first caps : List X)
 | mkm
 | lk (zero : V) (ok : Bool) (m k : X)
 | mu (m k v : X)
 | mxn (isMax : Bool) (x y : X)
 | call (m : Mode) (f : X) (args : List X)
 | no (why : String)
inductive D where
 | no
 | loc
 | slot (t : Nat)
structure Oper where
 dst : D
 op : Op
 guard : Option (X × Bool)
structure Spec where
 pre : List Oper
 m : X
 dst : Nat
 off : Nat
 sz : Option Nat
 row : Nat
 ns : List Nat
inductive Code where
 | skip
 | reg (ops : List Oper)
 | regd (ps : List (Nat × Nat)) (ops : List Oper)
 | spec (sp : Spec)
 | seq (a b : Code)
 | cond (c : X) (thn els : Code)
 | block (id : Nat) (body : Code)
 | loop (live : List Bool) (objs : Nat) (body : Code)
 | exit (id : Nat) (live : List Bool) (objs : Nat)
 | scope (body : Code)
 | sc (body cur : Code)
 | label (l : Nat)
 | goto (l : Nat) (live : List Bool) (objs : Nat)
 | ret (live : List Bool)
structure Fun where
 np : Nat
 nslots : Nat
 keep : Nat
 raw : Bool
 results : List (Nat × Option (Option Nat))
 body : Code
inductive Ex where
 | normal
 | exit (id : Nat)
 | goto (l : Nat)
 | ret
 deriving DecidableEq
def LIM : Nat:=4294967296
structure R where
 rs : List V
 env : List V
 st : zd
 base : Nat
 lim : Nat
def vun : V:=.one .un
def R.get (r : R) : X → V
 | .l k => r.rs.getD k vun
 | .s t => r.env.getD t vun
 | .c v => v
def R.put (r : R) : D → V → R
 | .no,_ => { r with rs:=vun :: r.rs }
 | .loc,v => { r with rs:=v :: r.rs }
 | .slot t,v => { r with rs:=vun :: r.rs,env:=r.env.set t v }
def V.cells : V → List C
 | .one c => [c]
 | .agg cs => cs
 | .tup _ => []
mutual
def C.lt (n : Nat) : C → Bool
 | .f _ => true
 | .ap t _ _ => decide (t < n)
 | .ptr id _ _ _ => decide (id < n)
 | .fp _ _ => true
 | .own id _ _ _ => decide (id < n)
 | .map id => decide (id < n)
 | .fn _ a b => C.lts n a && C.lts n b
 | .un => true
def C.lts (n : Nat) : List C → Bool
 | [] => true
 | c :: cs => c.lt n && C.lts n cs
end
mutual
def V.lt (n : Nat) : V → Bool
 | .one c => c.lt n
 | .agg cs => C.lts n cs
 | .tup vs => V.lts n vs
def V.lts (n : Nat) : List V → Bool
 | [] => true
 | v :: vs => v.lt n && V.lts n vs
end
def C.ltss (n : Nat) : List (List C) → Bool
 | [] => true
 | e :: es => C.lts n e && C.ltss n es
def C.ltm (n : Nat) : List (Int × V) → Bool
 | [] => true
 | e :: es => e.2.lt n && C.ltm n es
def Ob.lt (n : Nat) : Ob → Bool
 | .cells _ _ es => C.ltss n es
 | .tok _ _ => true
 | .mp es => C.ltm n es
def Obs.lt (n : Nat) : List Ob → Bool
 | [] => true
 | o :: os => o.lt n && Obs.lt n os
def C.kns : List C → Bool
 | [] => true
 | .un :: _ => false
 | _ :: cs => C.kns cs
def Ob.elem (ver i : Nat) : Ob → Option (List C)
 | .cells ver' _ es => if ver' = ver then es[i]? else none
 | _ => none
def zd.elem (σ : zd) (id ver i : Nat) : Option (List C):=(σ[id]?).bind (Ob.elem ver i)
def zd.cell (σ : zd) (id ver i off : Nat) : Option C:=(σ.elem id ver i).bind (·[off]?)
def zEC (e : List C) (off : Nat) (cs : List C) : Option (List C) :=
 if off + cs.length ≤ e.length then some (e.take off ++ (cs ++ e.drop (off + cs.length))) else none
def upd (ver sz i : Nat) (es : List (List C)) (e : List C) : Ob:=.cells ver sz (es.set i e)
def Ob.write (ver i off : Nat) (cs : List C) : Ob → Option Ob
 | .cells ver' sz es => if ver' = ver then ((es[i]?).bind fun e => zEC e off cs).map (upd ver' sz i es) else none
 | _ => none
def R.setOb (r : R) (id : Nat) (o : Ob) : R:={ r with st:=r.st.set id o }
def R.alloc (r : R) (o : Ob) : R:={ r with st:=r.st ++ [o] }
def R.write (r : R) (id ver i off : Nat) (cs : List C) : Option R :=
 if C.kns cs then ((r.st[id]?).bind (Ob.write ver i off cs)).map (r.setOb id) else none
def zIi (k : IntKind) (n : Int) : C:=.f (.lit (.int k n))
def zCW (k : IntKind) (n : Int) : V:=.one (.f (.lit (.int k n)))
def zkh (b : Bool) : V:=.one (.f (.lit (.bool b)))
def vsl (xs : List (List Fz)) : V:=.one (.f (.sl xs))
def vf (x : Fz) : V:=.one (.f x)
def zCa (xs : List Fz) : V:=.agg (xs.map C.f)
def vfp (e : List Fz) : V:=.one (.fp e 0)
def zHj (c : C) : V:=.one c
def V.c1 : V → C
 | .one c => c
 | _ => .un
def zHv (op : BinOp) (k : IntKind) (a b : Int) : Option V :=
 match op with
 | .add => some (.one (.f (.lit (.int k (k.wrap (a + b))))))
 | .sub => some (.one (.f (.lit (.int k (k.wrap (a - b))))))
 | .mul => some (.one (.f (.lit (.int k (k.wrap (a * b))))))
 | .quo => if b = 0 then none else some (.one (.f (.lit (.int k (k.wrap (a.tdiv b))))))
 | .rem => if b = 0 then none else some (.one (.f (.lit (.int k (a.tmod b)))))
 | .eql => some (.one (.f (.lit (.bool (decide (a = b))))))
 | .neq => some (.one (.f (.lit (.bool (!decide (a = b))))))
 | .lss => some (.one (.f (.lit (.bool (decide (a < b))))))
 | .leq => some (.one (.f (.lit (.bool (decide (a ≤ b))))))
 | .gtr => some (.one (.f (.lit (.bool (decide (b < a))))))
 | .geq => some (.one (.f (.lit (.bool (decide (b ≤ a))))))
 | .and => some (.one (.f (.lit (.int k (k.wrap (BitVec.ofInt k.bits a &&& BitVec.ofInt k.bits b).toNat)))))
 | .or => some (.one (.f (.lit (.int k (k.wrap (BitVec.ofInt k.bits a ||| BitVec.ofInt k.bits b).toNat)))))
 | .xor => some (.one (.f (.lit (.int k (k.wrap (BitVec.ofInt k.bits a ^^^ BitVec.ofInt k.bits b).toNat)))))
 | _ => none
def zzB (op : BinOp) (k : IntKind) (a b : Int) : Option V :=
 if 0 ≤ b then
  match op with
  | .shl => some (.one (.f (.lit (.int k (k.wrap (a * 2 ^ (min b.toNat k.bits)))))))
  | .shr => some (.one (.f (.lit (.int k (a.fdiv (2 ^ (min b.toNat k.bits)))))))
  | _ => none
 else none
def zHX (op : BinOp) (a b : Bool) : Option V :=
 match op with
 | .eql => some (.one (.f (.lit (.bool (a == b)))))
 | .neq => some (.one (.f (.lit (.bool (a != b)))))
 | _ => none
def ztD : BinOp → Bool
 | .shl | .shr => true
 | _ => false
def zHk (op : BinOp) : V → V → Option V
 | .one (.f (.lit (.int k a))),.one (.f (.lit (.int k' b))) => if ztD op then zzB op k a b else if k = k' then zHv op k a b else none
 | _,_ => none
def aun : UnOp → V → Option V
 | .not,.one (.f (.lit (.bool b))) => some (.one (.f (.lit (.bool !b))))
 | .neg,.one (.f (.lit (.int k n))) => some (.one (.f (.lit (.int k (k.wrap (0 - n))))))
 | _,_ => none
def zko : List C → List C → Option Bool
 | [],[] => some true
 | .f (.lit (.int k a)) :: xs,.f (.lit (.int k' b)) :: ys => if k = k' then (zko xs ys).map (decide (a = b) && ·) else none
 | _,_ => none
def zHa (neg : Bool) : V → V → Option V
 | .one (.f (.lit (.bool a))),.one (.f (.lit (.bool b))) => some (zkh (if neg then !(a == b) else a == b))
 | _,_ => none
def zH1 (neg : Bool) : V → Option V
 | .one (.ptr _ _ _ _) => some (zkh neg)
 | .one (.fp _ _) => some (zkh neg)
 | .one (.f (.lit (.pointer none))) => some (zkh (!neg))
 | _ => none
def zGU (neg b : Bool) : V:=zkh (if neg then !b else b)
def zHi (n : Nat) (neg : Bool) : V → V → Option V
 | .agg xs,.agg ys => if xs.length = n then (zko xs ys).map (zGU neg) else none
 | _,_ => none
abbrev zai:=Nat → List V → zd → Option (V × zd)
def zun : C → Option Fz
 | .f x => some x
 | .ap _ _ xs => some (.sl xs)
 | _ => none
def zgl {α : Type} : Option α → Option (List α) → Option (List α)
 | some x,some xs => some (x :: xs)
 | _,_ => none
def zeq : List C → Option (List Fz)
 | [] => some []
 | c :: cs => zgl (zun c) (zeq cs)
def zaj : List (List C) → Option (List (List Fz))
 | [] => some []
 | c :: cs => zgl (zeq c) (zaj cs)
def Ob.frz (ver lo n : Nat) : Ob → Option (List (List Fz))
 | .cells ver' _ es => if ver' = ver then zaj ((es.drop lo).take n) else none
 | _ => none
def zEF (σ : zd) : V → Option V
 | .one (.own id ver lo n) => ((σ[id]?).bind (Ob.frz ver lo n)).map vsl
 | .one (.fn g [] []) => some (.one (.fn g [] []))
 | .one c => (zun c).map vf
 | .agg cs => (zeq cs).map zCa
 | .tup _ => none
def zrs (σ : zd) : List V → Option (List V)
 | [] => some []
 | v :: vs => zgl (zEF σ v) (zrs σ vs)
def elems (σ : zd) : V → Option (List (List Fz))
 | .one (.own id ver lo n) => (σ[id]?).bind (Ob.frz ver lo n)
 | .one (.f (.sl xs)) => some xs
 | .one (.ap _ _ xs) => some xs
 | _ => none
def Ob.front (sz k : Nat) : Ob → Option Nat
 | .tok sz' fr => if sz' = sz then fr[k]? else none
 | _ => none
def Ob.setFront (k n : Nat) : Ob → Ob
 | .tok sz fr => .tok sz (fr.set k n)
 | o => o
def Ob.grow (n : Nat) (ys : List (List C)) : Ob → Ob
 | .cells ver sz es => .cells (ver + 1) sz (es.take n ++ ys)
 | o => o
def Ob.isRow (ver sz : Nat) : Ob → Bool
 | .cells ver' sz' _ => decide (ver' = ver) && decide (sz' = sz)
 | _ => false
def zoW (r : R) (d : D) (sz t k : Nat) (xs ys : List (List Fz)) (o : Ob) : Option R :=
 if o.front sz k = some xs.length ∧ xs.length + ys.length ≤ LIM then some ((r.setOb t (o.setFront k (xs.length + ys.length))).put d (.one (.ap t k (xs ++ ys)))) else none
def zvq (r : R) (d : D) (sz id ver n : Nat) (ys : List (List Fz)) (o : Ob) : Option R :=
 if o.isRow ver sz = true ∧ 0 < n + ys.length ∧ n + ys.length ≤ LIM then some ((r.setOb id (o.grow n (ys.map fun e => e.map C.f))).put d (.one (.own id (ver + 1) 0 (n + ys.length)))) else if o.isRow ver sz = true ∧ n + ys.length = 0 then some (r.put d (.one (.own id ver 0 0))) else none
def zoV (sz : Nat) : List (List Fz) → Bool
 | [] => true
 | e :: es => decide (e.length = sz) && zoV sz es
def zES (r : R) (d : D) (sz : Nat) (ys : List (List Fz)) : V → Option R
 | .one (.ap t k xs) => (r.st[t]?).bind (zoW r d sz t k xs ys)
 | .one (.own id ver 0 n) => (r.st[id]?).bind (zvq r d sz id ver n ys)
 | .one (.f (.lit (.slice none 0 0))) => if ys.length ≤ LIM then some ((r.alloc (.tok sz [ys.length])).put d (.one (.ap r.st.length 0 ys))) else none
 | _ => none
def zkE (r : R) (d : D) (sz id ver lo k : Nat) (ys : List (List Fz)) : Ob → Option R
 | .cells ver' sz' es => if ver' = ver ∧ sz' = sz ∧ lo + k ≤ es.length then
  some ((r.setOb id (.cells ver sz (es.take lo ++ ((ys.take k).map (fun e => e.map C.f) ++ es.drop (lo + k))))).put d (zCW .i64 k)) else none
 | _ => none
def zGf (r : R) (d : D) (sz : Nat) (ys : List (List Fz)) : V → Option R
 | .one (.own id ver lo n) => if min ys.length n = 0 then none else (r.st[id]?).bind (zkE r d sz id ver lo (min ys.length n) ys)
 | _ => none
def zol (r : R) : List (Nat × Nat × X) → List C → Option (List C)
 | [],cells => some cells
 | (off,sz,x) :: rest,cells => if (r.get x).cells.length = sz ∧ C.kns (r.get x).cells = true then (zEC cells off (r.get x).cells).bind (zol r rest) else none
def zpd (r : R) (sz : Nat) : List (Nat × X) → List (List C) → Option (List (List C))
 | [],cells => some cells
 | (i,x) :: rest,cells => if i < cells.length ∧ (r.get x).cells.length = sz ∧ C.kns (r.get x).cells = true then zpd r sz rest (cells.set i (r.get x).cells) else none
def zEz (sz : Nat) : Ob:=if 4096 ≤ sz then .cells 0 (sz - 4096) [] else .tok sz [0]
def zFZ (t sz : Nat) : C:=if 4096 ≤ sz then .own t 0 0 0 else .ap t 0 []
def zgZ : Nat → List (Nat × Nat) → List C → List C
 | _,[],cs => cs
 | t,j :: js,cs => zgZ (t + 1) js (cs.set j.1 (zFZ t j.2))
def tokens : List (Nat × Nat) → List Ob
 | [] => []
 | j :: js => zEz j.2 :: tokens js
def R.allocs (r : R) (os : List Ob) : R:={ r with st:=r.st ++ os }
def aal (r : R) (d : D) (zero : List C) (fresh : List (Nat × Nat)) : R :=
 (r.allocs (tokens fresh ++ [.cells 0 zero.length [zgZ r.st.length fresh zero]])).put d (.one (.ptr (r.st.length + fresh.length) 0 0 0))
def zFY (r : R) (d : D) (fresh : List (Nat × Nat)) (cs : List C) : R:=(r.allocs (tokens fresh)).put d (.agg cs)
def zFI (r : R) (d : D) (xs : List (List Fz)) : R:=r.put d (vsl xs)
def zAz (r : R) (d : D) (sz : Nat) (xs : List (List Fz)) : R:=(r.alloc (.tok sz [xs.length])).put d (.one (.ap r.st.length 0 xs))
def zxc (r : R) (d : D) (sz : Nat) : B → List (List C) → Option R
 | .fz,es => (zaj es).map (zFI r d)
 | .tk,es => (zaj es).map (zAz r d sz)
 | .rw,es => some ((r.alloc (.cells 0 sz es)).put d (.one (.own r.st.length 0 0 es.length)))
def zGS : V → Option V
 | .one (.own _ _ _ n) => some (zCW .i64 n)
 | .one (.f (.sl xs)) => some (zCW .i64 xs.length)
 | .one (.ap _ _ xs) => some (zCW .i64 xs.length)
 | _ => none
def zHO : V → Option V
 | .one (.f (.lit (.string s))) => some (zCW .i64 s.size)
 | _ => none
def afa (off : Nat) : V → Option V
 | .one (.ptr id ver i o) => some (.one (.ptr id ver i (o + off)))
 | .one (.fp cs o) => some (.one (.fp cs (o + off)))
 | _ => none
def zGn (sz : Nat) (e : List Fz) : Option V:=if e.length = sz then some (vfp e) else none
def zu6 (id ver sz lo : Nat) (k : Int) (o : Ob) : Option V:=if o.isRow ver sz then some (.one (.ptr id ver (lo + k.toNat) 0)) else none
def aia (σ : zd) (sz : Nat) : V → V → Option V
 | .one (.own id ver lo n),.one (.f (.lit (.int _ k))) => if 0 ≤ k ∧ k < n then (σ[id]?).bind (zu6 id ver sz lo k) else none
 | .one (.f (.sl xs)),.one (.f (.lit (.int _ k))) => if 0 ≤ k then (xs[k.toNat]?).bind (zGn sz) else none
 | .one (.ap _ _ xs),.one (.f (.lit (.int _ k))) => if 0 ≤ k then (xs[k.toNat]?).bind (zGn sz) else none
 | _,_ => none
def zHe (n sz : Nat) : V → V → Option V
 | .one (.ptr id ver j o),.one (.f (.lit (.int _ k))) => if 0 ≤ k ∧ k < n then some (.one (.ptr id ver j (o + k.toNat * sz))) else none
 | .one (.fp cs o),.one (.f (.lit (.int _ k))) => if 0 ≤ k ∧ k < n then some (.one (.fp cs (o + k.toNat * sz))) else none
 | _,_ => none
def cut {α : Type} (o n : Nat) (e : List α) : Option (List α):=if o + n ≤ e.length then some ((e.drop o).take n) else none
def ald (σ : zd) : Option Nat → V → Option V
 | none,.one (.ptr id ver i o) => (σ.cell id ver i o).map zHj
 | none,.one (.fp cs o) => (cs[o]?).map vf
 | some n,.one (.ptr id ver i o) => ((σ.elem id ver i).bind (cut o n)).map V.agg
 | some n,.one (.fp cs o) => (cut o n cs).map zCa
 | _,_ => none
def ast (r : R) (sz : Nat) (cs : List C) : V → Option R
 | .one (.ptr id ver i o) => if cs.length = sz then r.write id ver i o cs else none
 | _ => none
def zG8 (r : R) (sz : Nat) (v : V) : Option R:=ast (r.alloc (.tok sz [0])) 1 [.ap r.st.length 0 []] v
def nest (t : Nat) (zero : List C) (j : Nat) (k : Nat) : List C:=zero.set j (.ap t k [])
def zF2 (r : R) (d : D) (zero : List C) : Option (Nat × Nat) → V → Option R
 | none,.one (.f (.lit (.int _ k))) => if 0 ≤ k ∧ k ≤ LIM then some ((r.alloc (.cells 0 zero.length (yf k.toNat zero))).put d (.one (.own r.st.length 0 0 k.toNat))) else none
 | some j,.one (.f (.lit (.int _ k))) => if 0 ≤ k ∧ k ≤ LIM then
  some ((r.allocs [.tok j.2 (yf k.toNat 0),.cells 0 zero.length ((yi k.toNat).map (nest r.st.length zero j.1))]).put d (.one (.own (r.st.length + 1) 0 0 k.toNat))) else none
 | _,_ => none
def zrv (t : Nat) (zero : List C) (j : Nat) (k : Nat) : List C:=zero.set j (.own (t + k) 0 0 0)
def zGt (r : R) (d : D) (zero : List C) (j sz : Nat) : V → Option R
 | .one (.f (.lit (.int _ k))) => if 0 ≤ k ∧ k ≤ LIM then
  some ((r.allocs (yf k.toNat (.cells 0 sz []) ++ [.cells 0 zero.length ((yi k.toNat).map (zrv r.st.length zero j))])).put d (.one (.own (r.st.length + k.toNat) 0 0 k.toNat))) else none
 | _ => none
def zGy (r : R) (d : D) (sz : Nat) : V → Option R
 | .one (.f (.lit (.int _ k))) => if 0 ≤ k ∧ k ≤ LIM then some ((r.alloc (.tok sz [0])).put d (.one (.ap r.st.length 0 []))) else none
 | _ => none
def zEb : V → Option Nat
 | .one (.f (.lit (.int _ k))) => if 0 ≤ k then some k.toNat else none
 | _ => none
def bound (r : R) (dflt : Nat) : Option X → Option Nat
 | none => some dflt
 | some x => zEb (r.get x)
def zBz (sz : Nat) (xs : List (List Fz)) (lo hi : Nat) : Option V:=if lo ≤ hi ∧ hi ≤ xs.length ∧ zoV sz xs = true then some (vsl ((xs.take hi).drop lo)) else none
def zAT (σ : zd) (sz id ver l n lo hi : Nat) : Option V:=if lo ≤ hi ∧ hi ≤ n ∧ (σ[id]?).any (Ob.isRow ver sz) = true then some (.one (.own id ver (l + lo) (hi - lo))) else none
def zG5 (s : ByteArray) (lo hi : Nat) : Option V:=if lo ≤ hi ∧ hi ≤ s.size then some (.one (.f (.lit (.string (s.extract lo hi))))) else none
def two (f : Nat → Nat → Option V) : Option Nat → Option Nat → Option V
 | some a,some b => f a b
 | _,_ => none
def zwm : V → V → Bool
 | .one (.f (.lit (.int k a))),.one (.f (.lit (.int k' b))) => decide (k = k') && decide (a = b)
 | _,_ => false
def zDJ (r : R) (hi : Option X) : Option X → Bool
 | none => true
 | some m => match hi with
   | some h => zwm (r.get m) (r.get h)
   | none => false
def zGv (r : R) (sz : Nat) (lo hi : Option X) (mx : Bool) : V → Option V
 | .one (.f (.sl xs)) => two (zBz sz xs) (bound r 0 lo) (bound r xs.length hi)
 | .one (.ap _ _ xs) => two (zBz sz xs) (bound r 0 lo) (bound r xs.length hi)
 | .one (.own id ver l n) => if mx then none else two (zAT r.st sz id ver l n) (bound r 0 lo) (bound r n hi)
 | _ => none
def zH3 (r : R) (lo hi : Option X) : V → Option V
 | .one (.f (.lit (.string s))) => two (zG5 s) (bound r 0 lo) (bound r s.size hi)
 | _ => none
def zId : V → Bool
 | .one (.f (.sl _)) => true
 | .one (.ap _ _ _) => true
 | _ => false
def zHg (i : Nat) : V → Option V
 | .tup vs => vs[i]?
 | _ => none
def zGN (off : Nat) : Option Nat → V → Option V
 | none,.agg cs => (cs[off]?).map zHj
 | some n,.agg cs => (cut off n cs).map V.agg
 | _,_ => none
def zIf (n : Nat) : V → V → Option V
 | .agg cs,.one (.f (.lit (.int _ k))) => if 0 ≤ k ∧ k < n then (cs[k.toNat]?).map zHj else none
 | _,_ => none
def single (c : Fz) : List Fz:=[c]
def zIg (n lo : Nat) : V → Option V
 | .one (.fp cs 0) => if cs.length = n ∧ lo ≤ n then some (vsl ((cs.drop lo).map single)) else none
 | _ => none
def byteOf : List Fz → Option Int
 | [.lit (.int .u8 n)] => some n
 | _ => none
def bytesOf : List (List Fz) → Option (List Int)
 | [] => some []
 | e :: es => zgl (byteOf e) (bytesOf es)
def strOf (ns : List Int) : ByteArray:=⟨(ns.map fun n => UInt8.ofNat n.toNat).toArray⟩
def zH4 (ns : List Int) : V:=.one (.f (.lit (.string (strOf ns))))
def zIj (xs : List (List Fz)) : Option V:=(bytesOf xs).map zH4
def zHq (neg : Bool) : V → V → Option V
 | .one (.f (.lit (.string a))),.one (.f (.lit (.string b))) => some (zkh (if neg then !(a.toList == b.toList) else a.toList == b.toList))
 | _,_ => none
def zAZ (r : R) (d : D) (sz id ver n : Nat) (rows : List (List Fz)) : R:=(r.setOb id (.cells (ver + 1) sz [])).put d (vsl (rows.take n))
def zEl (r : R) (d : D) (sz id ver n : Nat) : Ob → Option R
 | .cells ver' sz' es => if ver' = ver ∧ sz' = sz then (zaj es).map (zAZ r d sz id ver n) else none
 | _ => none
def zIe (r : R) (d : D) (sz : Nat) : V → Option R
 | .one (.own id ver 0 n) => (r.st[id]?).bind (zEl r d sz id ver n)
 | _ => none
def Ob.rows (ver sz : Nat) : Ob → Option (List (List Fz))
 | .cells ver' sz' es => if ver' = ver ∧ sz' = sz then zaj es else none
 | _ => none
def zAI (r : R) (d : D) (sz id ver i o off id2 ver2 n : Nat) (rows : List (List Fz)) : Option R :=
 ((r.setOb id2 (.cells (ver2 + 1) sz [])).write id ver i (o + off) [.f (.sl (rows.take n))]).map fun r => r.put d (.one (.ptr id ver i o))
def zEk (r : R) (d : D) (off sz id ver i o : Nat) : C → Option R
 | .own id2 ver2 0 n => ((r.st[id2]?).bind (Ob.rows ver2 sz)).bind (zAI r d sz id ver i o off id2 ver2 n)
 | .f _ => some (r.put d (.one (.ptr id ver i o)))
 | _ => none
def zHE (r : R) (d : D) (off sz : Nat) : V → Option R
 | .one (.ptr id ver i o) => (r.st.cell id ver i (o + off)).bind (zEk r d off sz id ver i o)
 | _ => none
def zIa (r : R) (d : D) (fs : List Fz) : R:=r.put d (.one (.fp fs 0))
def zHb : V → Option V
 | .one (.ptr id ver i o) => some (.one (.ptr id ver i o))
 | .one (.fp cs o) => some (.one (.fp cs o))
 | .one (.fn f a b) => some (.one (.fn f a b))
 | _ => none
def zD2 (a b : V) : V → Option V
 | .one (.f (.lit (.bool t))) => some (if t then a else b)
 | _ => none
def zC3 (k : IntKind) : V → Option V
 | .one (.f (.lit (.int _ n))) => some (zCW k (k.wrap n))
 | _ => none
def zHf (isMax : Bool) : V → V → Option V
 | .one (.f (.lit (.int k a))),.one (.f (.lit (.int k' b))) => if k = k' then some (zCW k (if isMax then max a b else min a b)) else none
 | _,_ => none
def zh6 (k : Int) : List (Int × V) → Option V
 | [] => none
 | e :: es => if e.1 = k then some e.2 else zh6 k es
def zmP (k : Int) (v : V) : List (Int × V) → List (Int × V)
 | [] => [(k,v)]
 | e :: es => if e.1 = k then (k,v) :: es else e :: zmP k v es
def Ob.entries : Ob → Option (List (Int × V))
 | .mp es => some es
 | _ => none
def zFa (zero : V) (ok : Bool) : Option V → V
 | some v => if ok then .tup [v,zkh true] else v
 | none => if ok then .tup [zero,zkh false] else zero
def alk (σ : zd) (zero : V) (ok : Bool) : V → V → Option V
 | .one (.map id),.one (.f (.lit (.int .i64 k))) => ((σ[id]?).bind Ob.entries).map fun es => zFa zero ok (zh6 k es)
 | .one (.f (.lit (.map none))),.one (.f (.lit (.int .i64 _))) => some (zFa zero ok none)
 | _,_ => none
def zGW (r : R) (id : Nat) (k : Int) (v : V) (es : List (Int × V)) : R:=r.setOb id (.mp (zmP k v es))
def amu (r : R) (v : V) : V → V → Option R
 | .one (.map id),.one (.f (.lit (.int .i64 k))) => ((r.st[id]?).bind Ob.entries).map (zGW r id k v)
 | _,_ => none
mutual
def C.shift (n : Nat) : C → C
 | .f x => .f x
 | .ap t k xs => .ap (t + n) k xs
 | .ptr id ver i o => .ptr (id + n) ver i o
 | .fp cs o => .fp cs o
 | .own id ver lo m => .own (id + n) ver lo m
 | .map id => .map (id + n)
 | .fn g a b => .fn g (C.shifts n a) (C.shifts n b)
 | .un => .un
def C.shifts (n : Nat) : List C → List C
 | [] => []
 | c :: cs => c.shift n :: C.shifts n cs
end
mutual
def V.shift (n : Nat) : V → V
 | .one c => .one (c.shift n)
 | .agg cs => .agg (C.shifts n cs)
 | .tup vs => .tup (V.shifts n vs)
def V.shifts (n : Nat) : List V → List V
 | [] => []
 | v :: vs => v.shift n :: V.shifts n vs
end
def Ob.shift (n : Nat) : Ob → Ob
 | .cells ver sz es => .cells ver sz (es.map (C.shifts n))
 | .tok sz fr => .tok sz fr
 | .mp es => .mp (es.map fun e => (e.1,e.2.shift n))
def zv3 : V → Bool
 | .one (.own _ _ _ _) => true
 | _ => false
mutual
def V.plain : V → Bool
 | .one (.f (.lit _)) => true
 | .one _ => false
 | .agg cs => cs.all fun c => match c with
   | .f (.lit _) => true
   | _ => false
 | .tup vs => V.plains vs
def V.plains : List V → Bool
 | [] => true
 | v :: vs => v.plain && V.plains vs
end
def zxm (r : R) (d : D) (lent : Bool) (x : V × zd) : Option R:=if x.2.length = 0 ∧ (lent = false ∨ x.1.plain = true) then some (r.put d x.1) else none
def zxD (r : R) (d : D) (x : V × zd) : R:={ r with st:=r.st ++ x.2.map (Ob.shift r.st.length) }.put d (x.1.shift r.st.length)
def zw6 (r : R) (d : D) (x : V × zd) : R:={ r with st:=x.2 }.put d x.1
def closed (c : zai) (g : Nat) (aS : List V) : Option (V × zd):=c g aS []
def zph (call : zai) (r : R) (d : D) (m : Mode) (args : List V) : V → Option R
 | .one (.fn g first caps) =>
   match m with
   | .cl => ((zrs r.st (first.map V.one ++ (args ++ caps.map V.one))).bind (closed call g)).bind (zxm r d ((first.map V.one ++ (args ++ caps.map V.one)).any zv3))
   | .ck => if (first.map V.one ++ (args ++ caps.map V.one)).any zv3 then none else ((zrs r.st (first.map V.one ++ (args ++ caps.map V.one))).bind (closed call g)).map (zxD r d)
   | .op => (call g (first.map V.one ++ (args ++ caps.map V.one)) r.st).map (zw6 r d)
 | _ => none
def R.gets (r : R) : List X → List V
 | [] => []
 | x :: xs => r.get x :: r.gets xs
def anl (r : R) (d : D) (sz : Nat) : B → Option R
 | .tk => some ((r.alloc (.tok sz [0])).put d (.one (.ap r.st.length 0 [])))
 | .rw => some ((r.alloc (.cells 0 sz [])).put d (.one (.own r.st.length 0 0 0)))
 | .fz => some (r.put d (vsl []))
def zbm (call : zai) (r : R) (d : D) : Op → Option R
 | .mv x => some (r.put d (r.get x))
 | .pick c a b => (zD2 (r.get a) (r.get b) (r.get c)).map (r.put d)
 | .bin op x y => (zHk op (r.get x) (r.get y)).map (r.put d)
 | .beq neg x y => (zHa neg (r.get x) (r.get y)).map (r.put d)
 | .eqa n neg x y => (zHi n neg (r.get x) (r.get y)).map (r.put d)
 | .un op x => (aun op (r.get x)).map (r.put d)
 | .conv k x => (zC3 k (r.get x)).map (r.put d)
 | .len x => (zGS (r.get x)).map (r.put d)
 | .fa off x => (afa off (r.get x)).map (r.put d)
 | .ia sz x i => (aia r.st sz (r.get x) (r.get i)).map (r.put d)
 | .iaa n sz x i => (zHe n sz (r.get x) (r.get i)).map (r.put d)
 | .ld sz x => (ald r.st sz (r.get x)).map (r.put d)
 | .st sz x v => (ast r sz (r.get v).cells (r.get x)).map fun r => r.put d vun
 | .al zero fresh => some (aal r d zero fresh)
 | .box sz x => if (r.get x).cells.length = sz ∧ C.kns (r.get x).cells = true then some ((r.alloc (.cells 0 sz [(r.get x).cells])).put d (.one (.ptr r.st.length 0 0 0))) else none
 | .bld zero parts fresh => (zol r parts (zgZ r.st.length fresh zero)).map (zFY r d fresh)
 | .bsl b sz zero parts => (zpd r sz parts zero).bind (zxc r d sz b)
 | .nl b sz => anl r d sz b
 | .app sz s x => (elems r.st (r.get x)).bind fun ys => if zoV sz ys then zES r d sz ys (r.get s) else none
 | .cpy sz x y => (elems r.st (r.get y)).bind fun ys => if zoV sz ys then zGf r d sz ys (r.get x) else none
 | .mks zero fresh n => zF2 r d zero fresh (r.get n)
 | .mkc sz n => zGy r d sz (r.get n)
 | .mkr zero j sz n => zGt r d zero j sz (r.get n)
 | .slc sz x lo hi mx => if zDJ r hi mx = true then (zGv r sz lo hi mx.isSome (r.get x)).map (r.put d) else none
 | .ext x i => (zHg i (r.get x)).map (r.put d)
 | .fld off sz x => (zGN off sz (r.get x)).map (r.put d)
 | .stn sz x => (zG8 r sz (r.get x)).map fun r => r.put d vun
 | .nil x => (zHb (r.get x)).map (r.put d)
 | .mkf f first caps => some (r.put d (.one (.fn f ((r.gets first).map V.c1) ((r.gets caps).map V.c1))))
 | .mkm => some ((r.alloc (.mp [])).put d (.one (.map r.st.length)))
 | .lk zero ok m k => (alk r.st zero ok (r.get m) (r.get k)).map (r.put d)
 | .mu m k v => (amu r (r.get v) (r.get m) (r.get k)).map fun r => r.put d vun
 | .mxn isMax x y => (zHf isMax (r.get x) (r.get y)).map (r.put d)
 | .call m f args => zph call r d m (r.gets args) (r.get f)
 | .no _ => none
def zo7 (call : zai) (r : R) (d : D) (op : Op) (b : Bool) : V → Option R
 | .one (.f (.lit (.bool t))) => if t = b then zbm call r d op else some (r.put d (.tup []))
 | .tup [] => some (r.put d (.tup []))
 | _ => none
def step (call : zai) (r : R) : Oper → Option R
 | ⟨d,op,none⟩ => zbm call r d op
 | ⟨d,op,some (x,b)⟩ => zo7 call r d op b (r.get x)
def steps (call : zai) : List Oper → R → Option R
 | [],r => some r
 | o :: os,r => (step call r o).bind (steps call os)
def Value.beq : Value → Value → Bool
 | .int k a,.int k' b => decide (k = k') && decide (a = b)
 | .bool a,.bool b => a == b
 | .string a,.string b => decide (a.data.toList = b.data.toList)
 | _,_ => false
mutual
def Fz.beq : Fz → Fz → Bool
 | .lit v,.lit u => Value.beq v u
 | .sl xs,.sl ys => Fz.beqs xs ys
 | _,_ => false
def Fz.beqR : List Fz → List Fz → Bool
 | [],[] => true
 | x :: xs,y :: ys => x.beq y && Fz.beqR xs ys
 | _,_ => false
def Fz.beqs : List (List Fz) → List (List Fz) → Bool
 | [],[] => true
 | x :: xs,y :: ys => Fz.beqR x y && Fz.beqs xs ys
 | _,_ => false
end
def C.beq : C → C → Bool
 | .f x,.f y => x.beq y
 | .ap t k xs,.ap t' k' ys => decide (t = t') && decide (k = k') && Fz.beqs xs ys
 | .ptr a b c d,.ptr a' b' c' d' => decide (a = a') && decide (b = b') && decide (c = c') && decide (d = d')
 | .fp xs o,.fp ys o' => Fz.beqR xs ys && decide (o = o')
 | .own a b c d,.own a' b' c' d' => decide (a = a') && decide (b = b') && decide (c = c') && decide (d = d')
 | .map a,.map b => decide (a = b)
 | _,_ => false
def C.beqs : List C → List C → Bool
 | [],[] => true
 | x :: xs,y :: ys => x.beq y && C.beqs xs ys
 | _,_ => false
def V.beq : V → V → Bool
 | .one c,.one d => c.beq d
 | .agg cs,.agg ds => C.beqs cs ds
 | _,_ => false
def zxI : zai:=fun _ _ _ => none
def zwb : Option R → Option R → Bool
 | some a,some b => (a.rs.headD vun).beq (b.rs.headD vun)
 | _,_ => false
def zdH (c : zai) (ops : List Oper) (r : R) (p : Nat × Nat) : Bool:=match steps c (ops.take p.1) r,steps c (ops.take p.2) r,ops[p.1]? with
 | some rj,some rk,some x => zwb (step zxI { rj with st:=rk.st } x) (step zxI rj x)
 | _,_,_ => false
def zyO (c : zai) (ps : List (Nat × Nat)) (ops : List Oper) (r : R) : Option R:=(steps c ops r).bind fun r1 => if ps.all (zdH c ops r) then some r1 else none
structure St where
 env : List V
 st : zd
 base : Nat
 lim : Nat
def clr : List Bool → List V → List V
 | [],_ => []
 | true :: bs,v :: vs => v :: clr bs vs
 | false :: bs,_ :: vs => vun :: clr bs vs
 | _,[] => []
def znf (n : Nat) (env : List V) (σ : zd) : Option zd :=
 if σ.length ≤ n then some σ else if V.lts n env && Obs.lt n (σ.take n) then some (σ.take n) else none
def St.mkSt (s : St) (env : List V) (σ : zd) : St:={ s with env:=env,st:=σ }
def St.clear (s : St) (live : List Bool) (objs : Nat) : Option St :=
 (znf (s.base + objs) (clr live s.env) s.st).map (s.mkSt (clr live s.env))
def zF4 (e : Ex) (s : St) : Ex × St:=(e,s)
def findLabel : Code → Nat → Option Code
 | .seq a b,l => match findLabel a l with
   | some rest => some (.seq rest b)
   | none => findLabel b l
 | .label l',l => if l' = l then some .skip else none
 | _,_ => none
def enter (fn : Fun) (args : List V) (σ : zd) : St:=⟨args ++ yf (fn.nslots - args.length) vun,σ,σ.length,σ.length + fn.keep⟩
def zDw (lim : Nat) (σ : zd) : C → Option Fz
 | .own id ver lo n => if lim ≤ id then ((σ[id]?).bind (Ob.frz ver lo n)).map Fz.sl else none
 | c => zun c
def zjB (lim : Nat) (σ : zd) : List C → Option (List Fz)
 | [] => some []
 | c :: cs => zgl (zDw lim σ c) (zjB lim σ cs)
def zEt (lim : Nat) (σ : zd) : V → Option V
 | .one (.own id ver lo n) => if lim ≤ id then ((σ[id]?).bind (Ob.frz ver lo n)).map vsl else none
 | .one (.ap _ _ xs) => some (vsl xs)
 | .agg cs => (zjB lim σ cs).map zCa
 | v => some v
def zuS (σ : zd) (env : List V) : Nat × Option (Option Nat) → Option V
 | (t,none) => some (env.getD t vun)
 | (t,some sz) => ald σ sz (env.getD t vun)
def zAy (raw : Bool) (lim : Nat) (σ : zd) (v : V) : Option V:=if raw then some v else zEt lim σ v
def outs (raw : Bool) (lim : Nat) (σ : zd) (env : List V) : List (Nat × Option (Option Nat)) → Option (List V)
 | [] => some []
 | t :: ts => zgl ((zuS σ env t).bind (zAy raw lim σ)) (outs raw lim σ env ts)
def zEm : List V → V
 | [v] => v
 | vs => .tup vs
def zng (lim : Nat) (σ : zd) (vs : List V) : Option (V × zd):=(znf lim vs σ).map fun σ' => (zEm vs,σ')
def leave (raw : Bool) (res : List (Nat × Option (Option Nat))) : Ex × St → Option (V × zd)
 | (.normal,s) => (outs raw s.lim s.st s.env res).bind (zng s.lim s.st)
 | (.ret,s) => (outs raw s.lim s.st s.env res).bind (zng s.lim s.st)
 | _ => none
inductive Entry where
 | fn (f : Fun)
 | ext (f : List V → zd → Option (V × zd))
def zgp (T : Nat → Option Entry) (E : Code → St → Option (Ex × St)) : zai:=fun f args σ =>
 match T f with
 | some (.fn fn) => if args.length = fn.np then (E fn.body (enter fn args σ)).bind (leave fn.raw fn.results) else none
 | some (.ext g) => g args σ
 | none => none
def zrr (E : St → Option (Ex × St)) : Ex × St → Option (Ex × St)
 | (.normal,s) => E s
 | (.exit i,s) => some (.exit i,s)
 | (.goto i,s) => some (.goto i,s)
 | (.ret,s) => some (.ret,s)
def ztb (A B : St → Option (Ex × St)) (s : St) : V → Option (Ex × St)
 | .one (.f (.lit (.bool t))) => if t then A s else B s
 | _ => none
def zub (id : Nat) : Ex × St → Ex × St
 | (.exit id',s) => if id' = id then (.normal,s) else (.exit id',s)
 | r => r
def zri (E : St → Option (Ex × St)) (live : List Bool) (objs : Nat) : Ex × St → Option (Ex × St)
 | (.normal,s) => (s.clear live objs).bind E
 | (.exit i,s) => some (.exit i,s)
 | (.goto i,s) => some (.goto i,s)
 | (.ret,s) => some (.ret,s)
def scK (E : Code → St → Option (Ex × St)) (body : Code) : Ex × St → Option (Ex × St)
 | (.goto l,s) => match findLabel body l with
   | some rest => E (.sc body rest) s
   | none => some (.goto l,s)
 | r => some r
def zzk (base lim : Nat) (r : R) : Ex × St:=(.normal,⟨r.env,r.st,base,lim⟩)
def zxy (off : Nat) (sz : Option Nat) (row : Nat) : List (Int × V) → List (Int × V) → Option (List (Int × V))
 | [],ds => some ds
 | e :: es,ds => if e.2.cells.length = row ∧ C.kns e.2.cells = true then (zGN off sz e.2).bind fun v => zxy off sz row es (zmP e.1 v ds) else none
def zEu (sp : Spec) (s : St) (σ : zd) : V → V → Option St
 | .one (.map id),.one (.map id') => if id = id' then none else
  ((σ[id]?).bind Ob.entries).bind fun es => ((σ[id']?).bind Ob.entries).bind fun ds => (zxy sp.off sp.sz sp.row es ds).map fun ds' => s.mkSt s.env (σ.set id' (.mp ds'))
 | _,_ => none
def zDs (sp : Spec) (s : St) : Option St:=(steps zxI sp.pre ⟨[],s.env,s.st,s.base,s.lim⟩).bind fun r => zEu sp (s.mkSt r.env r.st) r.st (r.get sp.m) (r.env.getD sp.dst vun)
def zU (T : Nat → Option Entry) : Nat → Code → St → Option (Ex × St)
 | 0,_,_ => none
 | n + 1,c,s =>
   match c with
   | .skip => some (.normal,s)
   | .reg ops => (steps (zgp T (zU T n)) ops ⟨[],s.env,s.st,s.base,s.lim⟩).map (zzk s.base s.lim)
   | .regd ps ops => (zyO (zgp T (zU T n)) ps ops ⟨[],s.env,s.st,s.base,s.lim⟩).map (zzk s.base s.lim)
   | .spec sp => (zDs sp s).map (zF4 .normal)
   | .seq a b => (zU T n a s).bind (zrr (zU T n b))
   | .cond x a b => ztb (zU T n a) (zU T n b) s ((R.mk [] s.env s.st s.base s.lim).get x)
   | .block id body => (zU T n body s).map (zub id)
   | .loop live objs body => (zU T n body s).bind (zri (zU T n (.loop live objs body)) live objs)
   | .exit id live objs => (s.clear live objs).map (zF4 (.exit id))
   | .scope body => zU T n (.sc body body) s
   | .sc body cur => (zU T n cur s).bind (scK (zU T n) body)
   | .label _ => some (.normal,s)
   | .goto l live objs => (s.clear live objs).map (zF4 (.goto l))
   | .ret live => some (.ret,s.mkSt (clr live s.env) s.st)
def Le {α : Type} (a b : Option α) : Prop:=∀ r,a = some r → b = some r
theorem Le.refl {α : Type} (a : Option α) : Le a a:=fun _ h => h
theorem Le.bind {α β : Type} {a b : Option α} {K c : α → Option β} (h : Le a b) (e : ∀ x,Le (K x) (c x)) : Le (a.bind K) (b.bind c):=by
 intro r d;rw [ya] at d ⊢;obtain ⟨x,g,f⟩:=d;exact ⟨x,h x g,e x r f⟩
theorem Le.map {α β : Type} {a b : Option α} (h : Le a b) (f : α → β) : Le (a.map f) (b.map f):=by
 intro r c;rw [yb] at c ⊢;obtain ⟨x,e,d⟩:=c;exact ⟨x,h x e,d⟩
def LeC (c c' : zai) : Prop:=∀ f a σ,Le (c f a σ) (c' f a σ)
theorem zyX {c a : zai} (h : LeC c a) (r : R) (d : D) (m : Mode) (aS : List V) (v : V) : Le (zph c r d m aS v) (zph a r d m aS v):=by
 unfold zph;split
 ·cases m
  ·exact ((Le.refl _).bind fun aS => h _ _ _).bind fun _ => Le.refl _
  ·dsimp only
   split
   ·exact Le.refl _
   ·exact ((Le.refl _).bind fun aS => h _ _ _).map _
  ·exact (h _ _ _).map _
 ·exact Le.refl _
theorem zqF {c a : zai} (h : LeC c a) (r : R) (d : D) (o : Op) : Le (zbm c r d o) (zbm a r d o):=by
 cases o
 case call m f args => exact zyX h r d m _ _
 all_goals exact Le.refl _
theorem znP {c a : zai} (h : LeC c a) (r : R) (o : Oper) : Le (step c r o) (step a r o):=by
 obtain ⟨d,op,g⟩:=o
 cases g with
 | none => exact zqF h r d op
 | some g =>
   obtain ⟨x,b⟩:=g;simp only [step];generalize r.get x = v;unfold zo7;split
   ·split
    ·exact zqF h r d op
    ·exact Le.refl _
   ·exact Le.refl _
   ·exact Le.refl _
theorem zdW {c a : zai} (h : LeC c a) : ∀ (os : List Oper) (r : R),Le (steps c os r) (steps a os r)
 | [],_ => Le.refl _
 | o :: os,r => (znP h r o).bind fun x => zdW h os x
theorem zjO {c b : zai} (h : LeC c b) (ops : List Oper) (r : R) (p : Nat × Nat) (a : zdH c ops r p = true) : zdH b ops r p = true:=by
 unfold zdH at a ⊢;split at a
 ·rename_i g i x f d e
  rw [zdW h _ _ _ f,zdW h _ _ _ d,e];exact a
 ·cases a
theorem zuH {c e : zai} (h : LeC c e) (d : List (Nat × Nat)) (ops : List Oper) (r : R) : Le (zyO c d ops r) (zyO e d ops r):=by
 intro r1 b;unfold zyO at b ⊢;rw [ya] at b ⊢;obtain ⟨f,g,a⟩:=b;refine ⟨f,zdW h _ _ _ g,?_⟩;split at a
 ·rename_i j
  rw [if_pos (yc.2 fun p i => zjO h _ _ _ (yc.1 j p i))];exact a
 ·cases a
theorem zlc {T : Nat → Option Entry} {E b : Code → St → Option (Ex × St)} (h : ∀ c s,Le (E c s) (b c s)) : LeC (zgp T E) (zgp T b):=by
 intro f a σ;unfold zgp;split
 ·split
  ·exact (h _ _).bind fun _ => Le.refl _
  ·exact Le.refl _
 ·exact Le.refl _
 ·exact Le.refl _
theorem zt3 {E a : St → Option (Ex × St)} (h : ∀ s,Le (E s) (a s)) (x : Ex × St) : Le (zrr E x) (zrr a x):=by
 obtain ⟨e,s⟩:=x
 cases e <;> first | exact h s | exact Le.refl _
theorem zrP {E c : St → Option (Ex × St)} (h : ∀ s,Le (E s) (c s)) (b : List Bool) (a : Nat) (x : Ex × St) : Le (zri E b a x) (zri c b a x):=by
 obtain ⟨e,s⟩:=x
 cases e <;> first | exact (Le.refl _).bind h | exact Le.refl _
theorem zyI {A a B b : St → Option (Ex × St)} (h : ∀ s,Le (A s) (a s)) (c : ∀ s,Le (B s) (b s)) (s : St) (v : V) : Le (ztb A B s v) (ztb a b s v):=by
 unfold ztb;split
 ·split
  ·exact h s
  ·exact c s
 ·exact Le.refl _
theorem zxp {E a : Code → St → Option (Ex × St)} (h : ∀ c s,Le (E c s) (a c s)) (body : Code) (x : Ex × St) : Le (scK E body x) (scK a body x):=by
 obtain ⟨e,s⟩:=x;cases e <;> simp only [scK]
 case goto l =>
  split
  ·exact h _ _
  ·exact Le.refl _
 all_goals exact Le.refl _
theorem zrW (T : Nat → Option Entry) : ∀ (n : Nat) (c : Code) (s : St),Le (zU T n c s) (zU T (n + 1) c s)
 | 0,_,_ => fun r h => by simp [zU] at h
 | n + 1,c,s => by
   have d:=zrW T n;cases c <;> simp only [zU]
   case reg ops => exact (zdW (zlc d) ops _).map _
   case regd ps ops => exact (zuH (zlc d) ps ops _).map _
   case seq a b => exact (d a s).bind (zt3 (d b))
   case cond x a b => exact zyI (d a) (d b) s _
   case block id body => exact (d body s).map _
   case loop lv ob body => exact (d body s).bind (zrP (d _) lv ob)
   case scope body => exact d _ _
   case sc body cur => exact (d cur s).bind (zxp d body)
   all_goals exact Le.refl _
theorem zjl (T : Nat → Option Entry) {n m : Nat} (a : n ≤ m) (c : Code) (s : St) : Le (zU T n c s) (zU T m c s):=by
 induction a with
 | refl => exact Le.refl _
 | step _ ih => exact fun r h => zrW T _ _ _ r (ih r h)
open Classical in
noncomputable def exec (T : Nat → Option Entry) (c : Code) (s : St) : Option (Ex × St) :=
 if h : ∃ r n,zU T n c s = some r then some h.choose else none
theorem zdm {T : Nat → Option Entry} {c : Code} {s : St} {r : Ex × St} : exec T c s = some r ↔ ∃ n,zU T n c s = some r:=by
 unfold exec;constructor
 ·intro h
  split at h
  ·rename_i a
   injection h with h;subst h;exact a.choose_spec
  ·cases h
 ·rintro ⟨n,b⟩
  have a : ∃ r n,zU T n c s = some r:=⟨r,n,b⟩;rw [dif_pos a];obtain ⟨m,hm⟩:=a.choose_spec;have e:=zjl T (yd n m) _ _ _ b;have d:=zjl T (ye n m) _ _ _ hm;rw [e] at d;exact d.symm
noncomputable def call (T : Nat → Option Entry) : zai:=zgp T (exec T)
theorem zDe {α : Type} {a b : Option α} (h : ∀ r,a = some r ↔ b = some r) : a = b:=by
 cases a with
 | none => cases b with
   | none => rfl
   | some y => exact ((h y).2 rfl)
 | some x => exact ((h x).1 rfl).symm
theorem zsJ {T : Nat → Option Entry} {f : Nat} {a : List V} {σ : zd} {r : V × zd} (h : call T f a σ = some r) : ∃ n,zgp T (zU T n) f a σ = some r:=by
 unfold call zgp at h;unfold zgp;split at h
 ·split at h
  ·rename_i b
   simp only [if_pos b,ya] at h ⊢;obtain ⟨x,d,e⟩:=h;obtain ⟨n,c⟩:=zdm.1 d;exact ⟨n,x,c,e⟩
  ·cases h
 ·exact ⟨0,h⟩
 ·cases h
theorem zjp (T : Nat → Option Entry) {n m : Nat} (h : n ≤ m) : LeC (zgp T (zU T n)) (zgp T (zU T m)):=zlc fun c s => zjl T h c s
theorem zle (T : Nat → Option Entry) (n : Nat) : LeC (zgp T (zU T n)) (call T):=zlc fun _ _ _ a => zdm.2 ⟨n,a⟩
theorem zAx {T : Nat → Option Entry} {r : R} {d : D} {m : Mode} {aS : List V} {v : V} {x : R} (a : zph (call T) r d m aS v = some x) : ∃ n,zph (zgp T (zU T n)) r d m aS v = some x:=by
 unfold zph at a ⊢;split at a
 ·cases m
  ·simp only [ya] at a ⊢
   obtain ⟨y,⟨aS,g,c⟩,e⟩:=a;obtain ⟨n,b⟩:=zsJ c;exact ⟨n,y,⟨aS,g,b⟩,e⟩
  ·dsimp only at a ⊢
   split at a
   ·cases a
   ·rename_i f
    simp only [if_neg f,yb,ya] at a ⊢;obtain ⟨y,⟨aS,g,c⟩,e⟩:=a;obtain ⟨n,b⟩:=zsJ c;exact ⟨n,y,⟨aS,g,b⟩,e⟩
  ·simp only [yb] at a ⊢
   obtain ⟨y,c,e⟩:=a;obtain ⟨n,b⟩:=zsJ c;exact ⟨n,y,b,e⟩
 ·cases a
theorem zrE {T : Nat → Option Entry} {r : R} {d : D} {o : Op} {x : R} (a : zbm (call T) r d o = some x) : ∃ n,zbm (zgp T (zU T n)) r d o = some x:=by
 cases o
 case call m f args => exact zAx a
 all_goals exact ⟨0,a⟩
theorem zD0 {T : Nat → Option Entry} {r : R} {o : Oper} {x : R} (a : step (call T) r o = some x) : ∃ n,step (zgp T (zU T n)) r o = some x:=by
 obtain ⟨d,op,g⟩:=o
 cases g with
 | none => exact zrE a
 | some g =>
   obtain ⟨y,b⟩:=g;simp only [step] at a ⊢;generalize r.get y = v at a ⊢;unfold zo7 at a ⊢;split at a
   ·split at a
    ·rename_i h
     obtain ⟨n,c⟩:=zrE a;exact ⟨n,by rw [if_pos h]; exact c⟩
    ·rename_i h
     exact ⟨0,by rw [if_neg h]; exact a⟩
   ·exact ⟨0,a⟩
   ·cases a
theorem zk4 {T : Nat → Option Entry} : ∀ (os : List Oper) {r x : R},steps (call T) os r = some x → ∃ n,steps (zgp T (zU T n)) os r = some x
 | [],_,_,hs => ⟨0,hs⟩
 | o :: os,r,x,hs => by
   simp only [steps,ya] at hs ⊢;obtain ⟨r1,c,b⟩:=hs;obtain ⟨n,a⟩:=zD0 c;obtain ⟨m,hm⟩:=zk4 os b;exact ⟨max n m,r1,znP (zjp T (yd n m)) _ _ _ a,zdW (zjp T (ye n m)) os _ _ hm⟩
theorem zC1 {T : Nat → Option Entry} (c : List (Nat × Nat)) (os : List Oper) {r x : R} (k : zyO (call T) c os r = some x) : ∃ n,zyO (zgp T (zU T n)) c os r = some x:=by
 unfold zyO at k;rw [ya] at k;obtain ⟨v,q,d⟩:=k;split at d
 ·rename_i e
  injection d with d;subst d;obtain ⟨n,o⟩:=zk4 os q
  have f : ∀ c : List (Nat × Nat),c.all (zdH (call T) os r) = true → ∃ m,c.all (zdH (zgp T (zU T m)) os r) = true:=by
   intro c
   induction c with
   | nil => exact fun _ => ⟨0,rfl⟩
   | cons p c ih =>
     intro e;simp only [yh,yg] at e;obtain ⟨m,hm⟩:=ih e.2;have g:=e.1;unfold zdH at g;split at g
     ·rename_i u w x t l s
      obtain ⟨a,j⟩:=zk4 _ t;obtain ⟨b,i⟩:=zk4 _ l;refine ⟨max m (max a b),?_⟩;simp only [yh,yg];refine ⟨?_,yc.2 fun p h => zjO (zjp T (yd m _)) _ _ _ (yc.1 hm p h)⟩;unfold zdH;rw [zdW (zjp T (by omega : a ≤ max m (max a b))) _ _ _ j,zdW (zjp T (by omega : b ≤ max m (max a b))) _ _ _ i,s];exact g
     ·cases g
  obtain ⟨m,hm⟩:=f c e;refine ⟨max n m,?_⟩;unfold zyO;rw [zdW (zjp T (yd n m)) _ _ _ o];simp only [Option.bind_some];rw [if_pos (yc.2 fun p h => zjO (zjp T (ye n m)) _ _ _ (yc.1 hm p h))]
 ·cases d
section eqs
variable (T : Nat → Option Entry) (s : St)
theorem zgC {c : Code} {F : Nat → Option (Ex × St)} {L : Option (Ex × St)} (b : ∀ n,zU T (n + 1) c s = F n) (d : ∀ r,L = some r ↔ ∃ n,F n = some r) : exec T c s = L:=by
 refine zDe fun r => ?_;rw [zdm,d];constructor
 ·rintro ⟨n,a⟩
  cases n with
  | zero => simp [zU] at a
  | succ n => exact ⟨n,by rw [← b]; exact a⟩
 ·rintro ⟨n,a⟩
  exact ⟨n + 1,by rw [b]; exact a⟩
theorem zsM {β : Type} {c : Code} {G : Nat → Ex × St → Option β} {K : Ex × St → Option β} (g : ∀ x n m,n ≤ m → Le (G n x) (G m x)) (b : ∀ x r,K x = some r ↔ ∃ n,G n x = some r) (r : β) :
  (exec T c s).bind K = some r ↔ ∃ n,(zU T n c s).bind (G n) = some r:=by
 simp only [ya];constructor
 ·rintro ⟨x,a,d⟩
  obtain ⟨n,e⟩:=zdm.1 a;obtain ⟨m,hm⟩:=(b _ _).1 d;exact ⟨max n m,x,zjl T (yd n m) _ _ _ e,g _ _ _ (ye n m) _ hm⟩
 ·rintro ⟨n,x,a,f⟩
  exact ⟨x,zdm.2 ⟨n,a⟩,(b _ _).2 ⟨n,f⟩⟩
theorem zfG {α : Type} {L : Option α} (r : α) : L = some r ↔ ∃ _n : Nat,L = some r:=⟨fun h => ⟨0,h⟩,fun ⟨_,h⟩ => h⟩
theorem zfC : exec T .skip s = some (.normal,s):=zgC T s (fun _ => by rw [zU]) zfG
theorem zss (l : Nat) : exec T (.label l) s = some (.normal,s):=zgC T s (fun _ => by rw [zU]) zfG
theorem zAQ (l : Nat) (b : List Bool) (a : Nat) : exec T (.goto l b a) s = (s.clear b a).map (zF4 (.goto l)):=zgC T s (fun _ => by rw [zU]) zfG
theorem zBF (l : Nat) (b : List Bool) (a : Nat) : exec T (.exit l b a) s = (s.clear b a).map (zF4 (.exit l)):=zgC T s (fun _ => by rw [zU]) zfG
theorem zCi (a : List Bool) : exec T (.ret a) s = some (.ret,s.mkSt (clr a s.env) s.st):=zgC T s (fun _ => by rw [zU]) zfG
theorem zCZ (ops : List Oper) : exec T (.reg ops) s = (steps (call T) ops ⟨[],s.env,s.st,s.base,s.lim⟩).map (zzk s.base s.lim):=by
 refine zgC T s (fun n => by rw [zU]) fun r => ?_;simp only [yb];constructor
 ·rintro ⟨x,a,e⟩
  obtain ⟨n,b⟩:=zk4 ops a;exact ⟨n,x,b,e⟩
 ·rintro ⟨n,x,a,e⟩
  exact ⟨x,zdW (zle T n) ops _ _ a,e⟩
theorem zBc (a : List (Nat × Nat)) (ops : List Oper) : exec T (.regd a ops) s = (zyO (call T) a ops ⟨[],s.env,s.st,s.base,s.lim⟩).map (zzk s.base s.lim):=by
 refine zgC T s (fun n => by rw [zU]) fun r => ?_;simp only [yb];constructor
 ·rintro ⟨x,b,e⟩
  obtain ⟨n,c⟩:=zC1 a ops b;exact ⟨n,x,c,e⟩
 ·rintro ⟨n,x,b,e⟩
  exact ⟨x,zuH (zle T n) a ops _ _ b,e⟩
theorem zfP (a b : Code) : exec T (.seq a b) s = (exec T a s).bind (zrr (exec T b)):=by
 refine zgC T s (fun n => by rw [zU]) fun r => zsM T s ?_ ?_ r
 ·exact fun x n m c => zt3 (fun s => zjl T c b s) x
 ·rintro ⟨e,d⟩ r
  cases e <;> first | exact zdm | exact zfG r
theorem zBV (x : X) (a b : Code) : exec T (.cond x a b) s = ztb (exec T a) (exec T b) s ((R.mk [] s.env s.st s.base s.lim).get x):=by
 refine zgC T s (fun n => by rw [zU]) fun r => ?_;generalize (R.mk [] s.env s.st s.base s.lim).get x = v;unfold ztb;split
 ·rename_i t
  cases t <;> exact zdm
 ·exact zfG r
theorem zyJ (id : Nat) (body : Code) : exec T (.block id body) s = (exec T body s).map (zub id):=by
 refine zgC T s (fun n => by rw [zU]) fun r => ?_;simp only [yb];constructor
 ·rintro ⟨x,a,e⟩
  obtain ⟨n,b⟩:=zdm.1 a;exact ⟨n,x,b,e⟩
 ·rintro ⟨n,x,a,e⟩
  exact ⟨x,zdm.2 ⟨n,a⟩,e⟩
theorem zzI (live : List Bool) (a : Nat) (body : Code) : exec T (.loop live a body) s = (exec T body s).bind (zri (exec T (.loop live a body)) live a):=by
 refine zgC T s (fun n => by rw [zU]) fun r => zsM T s ?_ ?_ r
 ·exact fun x n m c => zrP (fun s => zjl T c _ s) live a x
 ·rintro ⟨e,f⟩ r
  cases e
  case normal =>
   simp only [zri,ya];constructor
   ·rintro ⟨x,b,h⟩
    obtain ⟨n,d⟩:=zdm.1 h;exact ⟨n,x,b,d⟩
   ·rintro ⟨n,x,b,h⟩
    exact ⟨x,b,zdm.2 ⟨n,h⟩⟩
  all_goals exact zfG r
theorem ziZ (body : Code) : exec T (.scope body) s = exec T (.sc body body) s :=
 zgC T s (fun n => by rw [zU]) fun _ => zdm
theorem zfl (body cur : Code) : exec T (.sc body cur) s = (exec T cur s).bind (scK (exec T) body):=by
 refine zgC T s (fun n => by rw [zU]) fun r => zsM T s ?_ ?_ r
 ·exact fun x n m a => zxp (fun c s => zjl T a c s) body x
 ·rintro ⟨e,b⟩ r
  cases e <;> simp only [scK]
  case goto l =>
   split
   ·exact zdm
   ·exact zfG r
  all_goals exact zfG r
end eqs
theorem ze {T : Nat → Option Entry} {f : Nat} {fn : Fun} (h : T f = some (.fn fn)) (args : List V) (σ : zd) : call T f args σ = if args.length = fn.np then (exec T fn.body (enter fn args σ)).bind (leave fn.raw fn.results) else none:=by
 simp only [call,zgp,h]
end Go.A
