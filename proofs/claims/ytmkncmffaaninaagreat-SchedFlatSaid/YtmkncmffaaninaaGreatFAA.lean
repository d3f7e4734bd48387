/- A part of the proof of SchedFlat. Conditions: none. -/
import GoSem.Core.View
set_option linter.all false
open Option renaming bind_eq_some_iff → ya,map_eq_some_iff → yb
open List renaming all_eq_true → yc,replicate → yf,all_cons → yh,range → yi
open Nat renaming le_max_left → yd,le_max_right → ye
open Bool renaming and_eq_true → yg
namespace Go.A
inductive Fz where
 | lit (v : Value)
 | sl (xs : List (List Fz))
 deriving Inhabited
inductive C where
 | f (x : Fz)
 | ap (tok k : Nat) (xs : List (List Fz))
 | ptr (id ver i off : Nat)
 | fp (cs : List Fz) (off : Nat)
 | own (id ver lo n : Nat)
 | map (id : Nat)
 | fn (f : Nat) (first caps : List C)
 | un
 deriving Inhabited
inductive V where
 | one (c : C)
 | agg (cs : List C)
 | tup (vs : List V)
 deriving Inhabited
inductive Ob where
 | cells (ver sz : Nat) (es : List (List C))
 | tok (sz : Nat) (fr : List Nat)
 | mp (es : List (Int × V))
 deriving Inhabited
abbrev zd:=List Ob
inductive X where
 | l (d : Nat)
 | s (t : Nat)
 | c (v : V)
inductive Mode where
 | cl
 | ck
 | op
inductive B where
 | fz
 | tk
 | rw
inductive Op where
 | mv (x : X)
 | pick (c a b : X)
 | bin (op : BinOp) (x y : X)
 | eqa (n : Nat) (neg : Bool) (x y : X)
 | beq (neg : Bool) (x y : X)
 | un (op : UnOp) (x : X)
 | conv (k : IntKind) (x : X)
 | len (x : X)
 | fa (off : Nat) (x : X)
 | ia (sz : Nat) (x i : X)
 | iaa (n sz : Nat) (x i : X)
 | ld (sz : Option Nat) (x : X)
 | st (sz : Nat) (x v : X)
 | al (zero : List C) (fresh : List (Nat × Nat))
 | box (sz : Nat) (x : X)
 | bld (zero : List C) (parts : List (Nat × Nat × X)) (fresh : List (Nat × Nat))
 | bsl (b : B) (sz : Nat) (zero : List (List C)) (parts : List (Nat × X))
 | nl (b : B) (sz : Nat)
 | app (sz : Nat) (s x : X)
 | cpy (sz : Nat) (x y : X)
 | mks (zero : List C) (fresh : Option (Nat × Nat)) (n : X)
 | mkc (sz : Nat) (n : X)
 | mkr (zero : List C) (j sz : Nat) (n : X)
 | slc (sz : Nat) (x : X) (lo hi mx : Option X)
 | ext (x : X) (i : Nat)
 | fld (off : Nat) (sz : Option Nat) (x : X)
 | nil (x : X)
 | mkf (f : Nat) (first caps : List X)
 | mkm
 | lk (zero : V) (ok : Bool) (m k : X)
 | mu (m k v : X)
 | mxn (isMax : Bool) (x y : X)
 | call (m : Mode) (f : X) (args : List X)
 | no (why : String)
inductive D where
 | no
 | loc
 | slot (t : Nat)
structure Oper where
 dst : D
 op : Op
 guard : Option (X × Bool)
structure Spec where
 pre : List Oper
 m : X
 dst : Nat
 off : Nat
 sz : Option Nat
 row : Nat
 ns : List Nat
inductive Code where
 | skip
 | reg (ops : List Oper)
 | regd (ps : List (Nat × Nat)) (ops : List Oper)
 | spec (sp : Spec)
 | seq (a b : Code)
 | cond (c : X) (thn els : Code)
 | block (id : Nat) (body : Code)
 | loop (live : List Bool) (objs : Nat) (body : Code)
 | exit (id : Nat) (live : List Bool) (objs : Nat)
 | scope (body : Code)
 | sc (body cur : Code)
 | label (l : Nat)
 | goto (l : Nat) (live : List Bool) (objs : Nat)
 | ret (live : List Bool)
structure Fun where
 np : Nat
 nslots : Nat
 keep : Nat
 raw : Bool
 results : List (Nat × Option (Option Nat))
 body : Code
inductive Ex where
 | normal
 | exit (id : Nat)
 | goto (l : Nat)
 | ret
 deriving DecidableEq
def LIM : Nat:=4294967296
structure R where
 rs : List V
 env : List V
 st : zd
 base : Nat
 lim : Nat
def vun : V:=.one .un
def R.get (r : R) : X → V
 | .l k => r.rs.getD k vun
 | .s t => r.env.getD t vun
 | .c v => v
def R.put (r : R) : D → V → R
 | .no,_ => { r with rs:=vun :: r.rs }
 | .loc,v => { r with rs:=v :: r.rs }
 | .slot t,v => { r with rs:=vun :: r.rs,env:=r.env.set t v }
def V.cells : V → List C
 | .one c => [c]
 | .agg cs => cs
 | .tup _ => []
mutual
def C.lt (n : Nat) : C → Bool
 | .f _ => true
 | .ap t _ _ => decide (t < n)
 | .ptr id _ _ _ => decide (id < n)
 | .fp _ _ => true
 | .own id _ _ _ => decide (id < n)
 | .map id => decide (id < n)
 | .fn _ a b => C.lts n a && C.lts n b
 | .un => true
def C.lts (n : Nat) : List C → Bool
 | [] => true
 | c :: cs => c.lt n && C.lts n cs
end
mutual
def V.lt (n : Nat) : V → Bool
 | .one c => c.lt n
 | .agg cs => C.lts n cs
 | .tup vs => V.lts n vs
def V.lts (n : Nat) : List V → Bool
 | [] => true
 | v :: vs => v.lt n && V.lts n vs
end
def C.ltss (n : Nat) : List (List C) → Bool
 | [] => true
 | e :: es => C.lts n e && C.ltss n es
def C.ltm (n : Nat) : List (Int × V) → Bool
 | [] => true
 | e :: es => e.2.lt n && C.ltm n es
def Ob.lt (n : Nat) : Ob → Bool
 | .cells _ _ es => C.ltss n es
 | .tok _ _ => true
 | .mp es => C.ltm n es
def Obs.lt (n : Nat) : List Ob → Bool
 | [] => true
 | o :: os => o.lt n && Obs.lt n os
def C.kns : List C → Bool
 | [] => true
 | .un :: _ => false
 | _ :: cs => C.kns cs
def Ob.elem (ver i : Nat) : Ob → Option (List C)
 | .cells ver' _ es => if ver' = ver then es[i]? else none
 | _ => none
def zd.elem (σ : zd) (id ver i : Nat) : Option (List C):=(σ[id]?).bind (Ob.elem ver i)
def zd.cell (σ : zd) (id ver i off : Nat) : Option C:=(σ.elem id ver i).bind (·[off]?)
def zEa (e : List C) (off : Nat) (cs : List C) : Option (List C) :=
 if off + cs.length ≤ e.length then some (e.take off ++ (cs ++ e.drop (off + cs.length))) else none
def upd (ver sz i : Nat) (es : List (List C)) (e : List C) : Ob:=.cells ver sz (es.set i e)
def Ob.write (ver i off : Nat) (cs : List C) : Ob → Option Ob
 | .cells ver' sz es => if ver' = ver then ((es[i]?).bind fun e => zEa e off cs).map (upd ver' sz i es) else none
 | _ => none
def R.setOb (r : R) (id : Nat) (o : Ob) : R:={ r with st:=r.st.set id o }
def R.alloc (r : R) (o : Ob) : R:={ r with st:=r.st ++ [o] }
def R.write (r : R) (id ver i off : Nat) (cs : List C) : Option R :=
 if C.kns cs then ((r.st[id]?).bind (Ob.write ver i off cs)).map (r.setOb id) else none
def zGx (k : IntKind) (n : Int) : C:=.f (.lit (.int k n))
def zCy (k : IntKind) (n : Int) : V:=.one (.f (.lit (.int k n)))
def zjm (b : Bool) : V:=.one (.f (.lit (.bool b)))
def vsl (xs : List (List Fz)) : V:=.one (.f (.sl xs))
def vf (x : Fz) : V:=.one (.f x)
def zAN (xs : List Fz) : V:=.agg (xs.map C.f)
def vfp (e : List Fz) : V:=.one (.fp e 0)
def zFw (c : C) : V:=.one c
def V.c1 : V → C
 | .one c => c
 | _ => .un
def zGb (op : BinOp) (k : IntKind) (a b : Int) : Option V :=
 match op with
 | .add => some (.one (.f (.lit (.int k (k.wrap (a + b))))))
 | .sub => some (.one (.f (.lit (.int k (k.wrap (a - b))))))
 | .mul => some (.one (.f (.lit (.int k (k.wrap (a * b))))))
 | .quo => if b = 0 then none else some (.one (.f (.lit (.int k (k.wrap (a.tdiv b))))))
 | .rem => if b = 0 then none else some (.one (.f (.lit (.int k (a.tmod b)))))
 | .eql => some (.one (.f (.lit (.bool (decide (a = b))))))
 | .neq => some (.one (.f (.lit (.bool (!decide (a = b))))))
 | .lss => some (.one (.f (.lit (.bool (decide (a < b))))))
 | .leq => some (.one (.f (.lit (.bool (decide (a ≤ b))))))
 | .gtr => some (.one (.f (.lit (.bool (decide (b < a))))))
 | .geq => some (.one (.f (.lit (.bool (decide (b ≤ a))))))
 | .and => some (.one (.f (.lit (.int k (k.wrap (BitVec.ofInt k.bits a &&& BitVec.ofInt k.bits b).toNat)))))
 | .or => some (.one (.f (.lit (.int k (k.wrap (BitVec.ofInt k.bits a ||| BitVec.ofInt k.bits b).toNat)))))
 | .xor => some (.one (.f (.lit (.int k (k.wrap (BitVec.ofInt k.bits a ^^^ BitVec.ofInt k.bits b).toNat)))))
 | _ => none
def zAx (op : BinOp) (k : IntKind) (a b : Int) : Option V :=
 if 0 ≤ b then
  match op with
  | .shl => some (.one (.f (.lit (.int k (k.wrap (a * 2 ^ (min b.toNat k.bits)))))))
  | .shr => some (.one (.f (.lit (.int k (a.fdiv (2 ^ (min b.toNat k.bits)))))))
  | _ => none
 else none
def zF7 (op : BinOp) (a b : Bool) : Option V :=
 match op with
 | .eql => some (.one (.f (.lit (.bool (a == b)))))
 | .neq => some (.one (.f (.lit (.bool (a != b)))))
 | _ => none
def zsf : BinOp → Bool
 | .shl | .shr => true
 | _ => false
def zFm (op : BinOp) : V → V → Option V
 | .one (.f (.lit (.int k a))),.one (.f (.lit (.int k' b))) => if zsf op then zAx op k a b else if k = k' then zGb op k a b else none
 | _,_ => none
def aun : UnOp → V → Option V
 | .not,.one (.f (.lit (.bool b))) => some (.one (.f (.lit (.bool !b))))
 | .neg,.one (.f (.lit (.int k n))) => some (.one (.f (.lit (.int k (k.wrap (0 - n))))))
 | _,_ => none
def zkh : List C → List C → Option Bool
 | [],[] => some true
 | .f (.lit (.int k a)) :: xs,.f (.lit (.int k' b)) :: ys => if k = k' then (zkh xs ys).map (decide (a = b) && ·) else none
 | _,_ => none
def zFu (neg : Bool) : V → V → Option V
 | .one (.f (.lit (.bool a))),.one (.f (.lit (.bool b))) => some (zjm (if neg then !(a == b) else a == b))
 | _,_ => none
def zFW (neg : Bool) : V → Option V
 | .one (.ptr _ _ _ _) => some (zjm neg)
 | .one (.fp _ _) => some (zjm neg)
 | .one (.f (.lit (.pointer none))) => some (zjm (!neg))
 | _ => none
def zEN (neg b : Bool) : V:=zjm (if neg then !b else b)
def zFs (n : Nat) (neg : Bool) : V → V → Option V
 | .agg xs,.agg ys => if xs.length = n then (zkh xs ys).map (zEN neg) else none
 | _,_ => none
abbrev zae:=Nat → List V → zd → Option (V × zd)
def ztr : C → Option Fz
 | .f x => some x
 | .ap _ _ xs => some (.sl xs)
 | _ => none
def zfF {α : Type} : Option α → Option (List α) → Option (List α)
 | some x,some xs => some (x :: xs)
 | _,_ => none
def zdR : List C → Option (List Fz)
 | [] => some []
 | c :: cs => zfF (ztr c) (zdR cs)
def zaf : List (List C) → Option (List (List Fz))
 | [] => some []
 | c :: cs => zfF (zdR c) (zaf cs)
def Ob.frz (ver lo n : Nat) : Ob → Option (List (List Fz))
 | .cells ver' _ es => if ver' = ver then zaf ((es.drop lo).take n) else none
 | _ => none
def zDD (σ : zd) : V → Option V
 | .one (.own id ver lo n) => ((σ[id]?).bind (Ob.frz ver lo n)).map vsl
 | .one (.fn g [] []) => some (.one (.fn g [] []))
 | .one c => (ztr c).map vf
 | .agg cs => (zdR cs).map zAN
 | .tup _ => none
def zqj (σ : zd) : List V → Option (List V)
 | [] => some []
 | v :: vs => zfF (zDD σ v) (zqj σ vs)
def elems (σ : zd) : V → Option (List (List Fz))
 | .one (.own id ver lo n) => (σ[id]?).bind (Ob.frz ver lo n)
 | .one (.f (.sl xs)) => some xs
 | .one (.ap _ _ xs) => some xs
 | _ => none
def Ob.front (sz k : Nat) : Ob → Option Nat
 | .tok sz' fr => if sz' = sz then fr[k]? else none
 | _ => none
def Ob.setFront (k n : Nat) : Ob → Ob
 | .tok sz fr => .tok sz (fr.set k n)
 | o => o
def Ob.grow (n : Nat) (ys : List (List C)) : Ob → Ob
 | .cells ver sz es => .cells (ver + 1) sz (es.take n ++ ys)
 | o => o
def Ob.isRow (ver sz : Nat) : Ob → Bool
 | .cells ver' sz' _ => decide (ver' = ver) && decide (sz' = sz)
 | _ => false
def znO (r : R) (d : D) (sz t k : Nat) (xs ys : List (List Fz)) (o : Ob) : Option R :=
 if o.front sz k = some xs.length ∧ xs.length + ys.length ≤ LIM then some ((r.setOb t (o.setFront k (xs.length + ys.length))).put d (.one (.ap t k (xs ++ ys)))) else none
def ztA (r : R) (d : D) (sz id ver n : Nat) (ys : List (List Fz)) (o : Ob) : Option R :=
 if o.isRow ver sz = true ∧ 0 < n + ys.length ∧ n + ys.length ≤ LIM then some ((r.setOb id (o.grow n (ys.map fun e => e.map C.f))).put d (.one (.own id (ver + 1) 0 (n + ys.length)))) else if o.isRow ver sz = true ∧ n + ys.length = 0 then some (r.put d (.one (.own id ver 0 0))) else none
def zn4 (sz : Nat) : List (List Fz) → Bool
 | [] => true
 | e :: es => decide (e.length = sz) && zn4 sz es
def zDN (r : R) (d : D) (sz : Nat) (ys : List (List Fz)) : V → Option R
 | .one (.ap t k xs) => (r.st[t]?).bind (znO r d sz t k xs ys)
 | .one (.own id ver 0 n) => (r.st[id]?).bind (ztA r d sz id ver n ys)
 | .one (.f (.lit (.slice none 0 0))) => if ys.length ≤ LIM then some ((r.alloc (.tok sz [ys.length])).put d (.one (.ap r.st.length 0 ys))) else none
 | _ => none
def zjz (r : R) (d : D) (sz id ver lo k : Nat) (ys : List (List Fz)) : Ob → Option R
 | .cells ver' sz' es => if ver' = ver ∧ sz' = sz ∧ lo + k ≤ es.length then
  some ((r.setOb id (.cells ver sz (es.take lo ++ ((ys.take k).map (fun e => e.map C.f) ++ es.drop (lo + k))))).put d (zCy .i64 k)) else none
 | _ => none
def zFd (r : R) (d : D) (sz : Nat) (ys : List (List Fz)) : V → Option R
 | .one (.own id ver lo n) => if min ys.length n = 0 then none else (r.st[id]?).bind (zjz r d sz id ver lo (min ys.length n) ys)
 | _ => none
def zm9 (r : R) : List (Nat × Nat × X) → List C → Option (List C)
 | [],cells => some cells
 | (off,sz,x) :: rest,cells => if (r.get x).cells.length = sz ∧ C.kns (r.get x).cells = true then (zEa cells off (r.get x).cells).bind (zm9 r rest) else none
def zn9 (r : R) (sz : Nat) : List (Nat × X) → List (List C) → Option (List (List C))
 | [],cells => some cells
 | (i,x) :: rest,cells => if i < cells.length ∧ (r.get x).cells.length = sz ∧ C.kns (r.get x).cells = true then zn9 r sz rest (cells.set i (r.get x).cells) else none
def zCI (sz : Nat) : Ob:=if 4096 ≤ sz then .cells 0 (sz - 4096) [] else .tok sz [0]
def zEl (t sz : Nat) : C:=if 4096 ≤ sz then .own t 0 0 0 else .ap t 0 []
def zf8 : Nat → List (Nat × Nat) → List C → List C
 | _,[],cs => cs
 | t,j :: js,cs => zf8 (t + 1) js (cs.set j.1 (zEl t j.2))
def tokens : List (Nat × Nat) → List Ob
 | [] => []
 | j :: js => zCI j.2 :: tokens js
def R.allocs (r : R) (os : List Ob) : R:={ r with st:=r.st ++ os }
def aal (r : R) (d : D) (zero : List C) (fresh : List (Nat × Nat)) : R :=
 (r.allocs (tokens fresh ++ [.cells 0 zero.length [zf8 r.st.length fresh zero]])).put d (.one (.ptr (r.st.length + fresh.length) 0 0 0))
def zEj (r : R) (d : D) (fresh : List (Nat × Nat)) (cs : List C) : R:=(r.allocs (tokens fresh)).put d (.agg cs)
def zDV (r : R) (d : D) (xs : List (List Fz)) : R:=r.put d (vsl xs)
def zx2 (r : R) (d : D) (sz : Nat) (xs : List (List Fz)) : R:=(r.alloc (.tok sz [xs.length])).put d (.one (.ap r.st.length 0 xs))
def zvN (r : R) (d : D) (sz : Nat) : B → List (List C) → Option R
 | .fz,es => (zaf es).map (zDV r d)
 | .tk,es => (zaf es).map (zx2 r d sz)
 | .rw,es => some ((r.alloc (.cells 0 sz es)).put d (.one (.own r.st.length 0 0 es.length)))
def zED : V → Option V
 | .one (.own _ _ _ n) => some (zCy .i64 n)
 | .one (.f (.sl xs)) => some (zCy .i64 xs.length)
 | .one (.ap _ _ xs) => some (zCy .i64 xs.length)
 | _ => none
def zGc : V → Option V
 | .one (.f (.lit (.string s))) => some (zCy .i64 s.size)
 | _ => none
def afa (off : Nat) : V → Option V
 | .one (.ptr id ver i o) => some (.one (.ptr id ver i (o + off)))
 | .one (.fp cs o) => some (.one (.fp cs (o + off)))
 | _ => none
def zEX (sz : Nat) (e : List Fz) : Option V:=if e.length = sz then some (vfp e) else none
def zue (id ver sz lo : Nat) (k : Int) (o : Ob) : Option V:=if o.isRow ver sz then some (.one (.ptr id ver (lo + k.toNat) 0)) else none
def aia (σ : zd) (sz : Nat) : V → V → Option V
 | .one (.own id ver lo n),.one (.f (.lit (.int _ k))) => if 0 ≤ k ∧ k < n then (σ[id]?).bind (zue id ver sz lo k) else none
 | .one (.f (.sl xs)),.one (.f (.lit (.int _ k))) => if 0 ≤ k then (xs[k.toNat]?).bind (zEX sz) else none
 | .one (.ap _ _ xs),.one (.f (.lit (.int _ k))) => if 0 ≤ k then (xs[k.toNat]?).bind (zEX sz) else none
 | _,_ => none
def zFr (n sz : Nat) : V → V → Option V
 | .one (.ptr id ver j o),.one (.f (.lit (.int _ k))) => if 0 ≤ k ∧ k < n then some (.one (.ptr id ver j (o + k.toNat * sz))) else none
 | .one (.fp cs o),.one (.f (.lit (.int _ k))) => if 0 ≤ k ∧ k < n then some (.one (.fp cs (o + k.toNat * sz))) else none
 | _,_ => none
def cut {α : Type} (o n : Nat) (e : List α) : Option (List α):=if o + n ≤ e.length then some ((e.drop o).take n) else none
def ald (σ : zd) : Option Nat → V → Option V
 | none,.one (.ptr id ver i o) => (σ.cell id ver i o).map zFw
 | none,.one (.fp cs o) => (cs[o]?).map vf
 | some n,.one (.ptr id ver i o) => ((σ.elem id ver i).bind (cut o n)).map V.agg
 | some n,.one (.fp cs o) => (cut o n cs).map zAN
 | _,_ => none
def ast (r : R) (sz : Nat) (cs : List C) : V → Option R
 | .one (.ptr id ver i o) => if cs.length = sz then r.write id ver i o cs else none
 | _ => none
def zGv (r : R) (sz : Nat) (v : V) : Option R:=ast (r.alloc (.tok sz [0])) 1 [.ap r.st.length 0 []] v
def nest (t : Nat) (zero : List C) (j : Nat) (k : Nat) : List C:=zero.set j (.ap t k [])
def zEg (r : R) (d : D) (zero : List C) : Option (Nat × Nat) → V → Option R
 | none,.one (.f (.lit (.int _ k))) => if 0 ≤ k ∧ k ≤ LIM then some ((r.alloc (.cells 0 zero.length (yf k.toNat zero))).put d (.one (.own r.st.length 0 0 k.toNat))) else none
 | some j,.one (.f (.lit (.int _ k))) => if 0 ≤ k ∧ k ≤ LIM then
  some ((r.allocs [.tok j.2 (yf k.toNat 0),.cells 0 zero.length ((yi k.toNat).map (nest r.st.length zero j.1))]).put d (.one (.own (r.st.length + 1) 0 0 k.toNat))) else none
 | _,_ => none
def zqh (t : Nat) (zero : List C) (j : Nat) (k : Nat) : List C:=zero.set j (.own (t + k) 0 0 0)
def zFc (r : R) (d : D) (zero : List C) (j sz : Nat) : V → Option R
 | .one (.f (.lit (.int _ k))) => if 0 ≤ k ∧ k ≤ LIM then
  some ((r.allocs (yf k.toNat (.cells 0 sz []) ++ [.cells 0 zero.length ((yi k.toNat).map (zqh r.st.length zero j))])).put d (.one (.own (r.st.length + k.toNat) 0 0 k.toNat))) else none
 | _ => none
def zFh (r : R) (d : D) (sz : Nat) : V → Option R
 | .one (.f (.lit (.int _ k))) => if 0 ≤ k ∧ k ≤ LIM then some ((r.alloc (.tok sz [0])).put d (.one (.ap r.st.length 0 []))) else none
 | _ => none
def zBP : V → Option Nat
 | .one (.f (.lit (.int _ k))) => if 0 ≤ k then some k.toNat else none
 | _ => none
def bound (r : R) (dflt : Nat) : Option X → Option Nat
 | none => some dflt
 | some x => zBP (r.get x)
def zzQ (sz : Nat) (xs : List (List Fz)) (lo hi : Nat) : Option V:=if lo ≤ hi ∧ hi ≤ xs.length ∧ zn4 sz xs = true then some (vsl ((xs.take hi).drop lo)) else none
def zyk (σ : zd) (sz id ver l n lo hi : Nat) : Option V:=if lo ≤ hi ∧ hi ≤ n ∧ (σ[id]?).any (Ob.isRow ver sz) = true then some (.one (.own id ver (l + lo) (hi - lo))) else none
def zEV (s : ByteArray) (lo hi : Nat) : Option V:=if lo ≤ hi ∧ hi ≤ s.size then some (.one (.f (.lit (.string (s.extract lo hi))))) else none
def two (f : Nat → Nat → Option V) : Option Nat → Option Nat → Option V
 | some a,some b => f a b
 | _,_ => none
def zuN : V → V → Bool
 | .one (.f (.lit (.int k a))),.one (.f (.lit (.int k' b))) => decide (k = k') && decide (a = b)
 | _,_ => false
def zBG (r : R) (hi : Option X) : Option X → Bool
 | none => true
 | some m => match hi with
   | some h => zuN (r.get m) (r.get h)
   | none => false
def zFg (r : R) (sz : Nat) (lo hi : Option X) (mx : Bool) : V → Option V
 | .one (.f (.sl xs)) => two (zzQ sz xs) (bound r 0 lo) (bound r xs.length hi)
 | .one (.ap _ _ xs) => two (zzQ sz xs) (bound r 0 lo) (bound r xs.length hi)
 | .one (.own id ver l n) => if mx then none else two (zyk r.st sz id ver l n) (bound r 0 lo) (bound r n hi)
 | _ => none
def zF1 (r : R) (lo hi : Option X) : V → Option V
 | .one (.f (.lit (.string s))) => two (zEV s) (bound r 0 lo) (bound r s.size hi)
 | _ => none
def zGq : V → Bool
 | .one (.f (.sl _)) => true
 | .one (.ap _ _ _) => true
 | _ => false
def zFt (i : Nat) : V → Option V
 | .tup vs => vs[i]?
 | _ => none
def zFb (off : Nat) : Option Nat → V → Option V
 | none,.agg cs => (cs[off]?).map zFw
 | some n,.agg cs => (cut off n cs).map V.agg
 | _,_ => none
def zGp (n : Nat) : V → V → Option V
 | .agg cs,.one (.f (.lit (.int _ k))) => if 0 ≤ k ∧ k < n then (cs[k.toNat]?).map zFw else none
 | _,_ => none
def single (c : Fz) : List Fz:=[c]
def zGz (n lo : Nat) : V → Option V
 | .one (.fp cs 0) => if cs.length = n ∧ lo ≤ n then some (vsl ((cs.drop lo).map single)) else none
 | _ => none
def byteOf : List Fz → Option Int
 | [.lit (.int .u8 n)] => some n
 | _ => none
def bytesOf : List (List Fz) → Option (List Int)
 | [] => some []
 | e :: es => zfF (byteOf e) (bytesOf es)
def strOf (ns : List Int) : ByteArray:=⟨(ns.map fun n => UInt8.ofNat n.toNat).toArray⟩
def zGk (ns : List Int) : V:=.one (.f (.lit (.string (strOf ns))))
def zGr (xs : List (List Fz)) : Option V:=(bytesOf xs).map zGk
def zF0 (neg : Bool) : V → V → Option V
 | .one (.f (.lit (.string a))),.one (.f (.lit (.string b))) => some (zjm (if neg then !(a.toList == b.toList) else a.toList == b.toList))
 | _,_ => none
def zyM (r : R) (d : D) (sz id ver n : Nat) (rows : List (List Fz)) : R:=(r.setOb id (.cells (ver + 1) sz [])).put d (vsl (rows.take n))
def zCL (r : R) (d : D) (sz id ver n : Nat) : Ob → Option R
 | .cells ver' sz' es => if ver' = ver ∧ sz' = sz then (zaf es).map (zyM r d sz id ver n) else none
 | _ => none
def zGt (r : R) (d : D) (sz : Nat) : V → Option R
 | .one (.own id ver 0 n) => (r.st[id]?).bind (zCL r d sz id ver n)
 | _ => none
def Ob.rows (ver sz : Nat) : Ob → Option (List (List Fz))
 | .cells ver' sz' es => if ver' = ver ∧ sz' = sz then zaf es else none
 | _ => none
def zyt (r : R) (d : D) (sz id ver i o off id2 ver2 n : Nat) (rows : List (List Fz)) : Option R :=
 ((r.setOb id2 (.cells (ver2 + 1) sz [])).write id ver i (o + off) [.f (.sl (rows.take n))]).map fun r => r.put d (.one (.ptr id ver i o))
def zCN (r : R) (d : D) (off sz id ver i o : Nat) : C → Option R
 | .own id2 ver2 0 n => ((r.st[id2]?).bind (Ob.rows ver2 sz)).bind (zyt r d sz id ver i o off id2 ver2 n)
 | .f _ => some (r.put d (.one (.ptr id ver i o)))
 | _ => none
def zFI (r : R) (d : D) (off sz : Nat) : V → Option R
 | .one (.ptr id ver i o) => (r.st.cell id ver i (o + off)).bind (zCN r d off sz id ver i o)
 | _ => none
def zGy (r : R) (d : D) (fs : List Fz) : R:=r.put d (.one (.fp fs 0))
def zFv : V → Option V
 | .one (.ptr id ver i o) => some (.one (.ptr id ver i o))
 | .one (.fp cs o) => some (.one (.fp cs o))
 | .one (.fn f a b) => some (.one (.fn f a b))
 | _ => none
def zB3 (a b : V) : V → Option V
 | .one (.f (.lit (.bool t))) => some (if t then a else b)
 | _ => none
def zBE (k : IntKind) : V → Option V
 | .one (.f (.lit (.int _ n))) => some (zCy k (k.wrap n))
 | _ => none
def zFq (isMax : Bool) : V → V → Option V
 | .one (.f (.lit (.int k a))),.one (.f (.lit (.int k' b))) => if k = k' then some (zCy k (if isMax then max a b else min a b)) else none
 | _,_ => none
def zhj (k : Int) : List (Int × V) → Option V
 | [] => none
 | e :: es => if e.1 = k then some e.2 else zhj k es
def zlV (k : Int) (v : V) : List (Int × V) → List (Int × V)
 | [] => [(k,v)]
 | e :: es => if e.1 = k then (k,v) :: es else e :: zlV k v es
def Ob.entries : Ob → Option (List (Int × V))
 | .mp es => some es
 | _ => none
def zC6 (zero : V) (ok : Bool) : Option V → V
 | some v => if ok then .tup [v,zjm true] else v
 | none => if ok then .tup [zero,zjm false] else zero
def alk (σ : zd) (zero : V) (ok : Bool) : V → V → Option V
 | .one (.map id),.one (.f (.lit (.int .i64 k))) => ((σ[id]?).bind Ob.entries).map fun es => zC6 zero ok (zhj k es)
 | .one (.f (.lit (.map none))),.one (.f (.lit (.int .i64 _))) => some (zC6 zero ok none)
 | _,_ => none
def zE4 (r : R) (id : Nat) (k : Int) (v : V) (es : List (Int × V)) : R:=r.setOb id (.mp (zlV k v es))
def amu (r : R) (v : V) : V → V → Option R
 | .one (.map id),.one (.f (.lit (.int .i64 k))) => ((r.st[id]?).bind Ob.entries).map (zE4 r id k v)
 | _,_ => none
mutual
def C.shift (n : Nat) : C → C
 | .f x => .f x
 | .ap t k xs => .ap (t + n) k xs
 | .ptr id ver i o => .ptr (id + n) ver i o
 | .fp cs o => .fp cs o
 | .own id ver lo m => .own (id + n) ver lo m
 | .map id => .map (id + n)
 | .fn g a b => .fn g (C.shifts n a) (C.shifts n b)
 | .un => .un
def C.shifts (n : Nat) : List C → List C
 | [] => []
 | c :: cs => c.shift n :: C.shifts n cs
end
mutual
def V.shift (n : Nat) : V → V
 | .one c => .one (c.shift n)
 | .agg cs => .agg (C.shifts n cs)
 | .tup vs => .tup (V.shifts n vs)
def V.shifts (n : Nat) : List V → List V
 | [] => []
 | v :: vs => v.shift n :: V.shifts n vs
end
def Ob.shift (n : Nat) : Ob → Ob
 | .cells ver sz es => .cells ver sz (es.map (C.shifts n))
 | .tok sz fr => .tok sz fr
 | .mp es => .mp (es.map fun e => (e.1,e.2.shift n))
def zuG : V → Bool
 | .one (.own _ _ _ _) => true
 | _ => false
mutual
def V.plain : V → Bool
 | .one (.f (.lit _)) => true
 | .one _ => false
 | .agg cs => cs.all fun c => match c with
   | .f (.lit _) => true
   | _ => false
 | .tup vs => V.plains vs
def V.plains : List V → Bool
 | [] => true
 | v :: vs => v.plain && V.plains vs
end
def zvD (r : R) (d : D) (lent : Bool) (x : V × zd) : Option R:=if x.2.length = 0 ∧ (lent = false ∨ x.1.plain = true) then some (r.put d x.1) else none
def zv1 (r : R) (d : D) (x : V × zd) : R:={ r with st:=r.st ++ x.2.map (Ob.shift r.st.length) }.put d (x.1.shift r.st.length)
def zvR (r : R) (d : D) (x : V × zd) : R:={ r with st:=x.2 }.put d x.1
def closed (c : zae) (g : Nat) (aS : List V) : Option (V × zd):=c g aS []
def zoe (call : zae) (r : R) (d : D) (m : Mode) (args : List V) : V → Option R
 | .one (.fn g first caps) =>
   match m with
   | .cl => ((zqj r.st (first.map V.one ++ (args ++ caps.map V.one))).bind (closed call g)).bind (zvD r d ((first.map V.one ++ (args ++ caps.map V.one)).any zuG))
   | .ck => if (first.map V.one ++ (args ++ caps.map V.one)).any zuG then none else ((zqj r.st (first.map V.one ++ (args ++ caps.map V.one))).bind (closed call g)).map (zv1 r d)
   | .op => (call g (first.map V.one ++ (args ++ caps.map V.one)) r.st).map (zvR r d)
 | _ => none
def R.gets (r : R) : List X → List V
 | [] => []
 | x :: xs => r.get x :: r.gets xs
def anl (r : R) (d : D) (sz : Nat) : B → Option R
 | .tk => some ((r.alloc (.tok sz [0])).put d (.one (.ap r.st.length 0 [])))
 | .rw => some ((r.alloc (.cells 0 sz [])).put d (.one (.own r.st.length 0 0 0)))
 | .fz => some (r.put d (vsl []))
def za8 (call : zae) (r : R) (d : D) : Op → Option R
 | .mv x => some (r.put d (r.get x))
 | .pick c a b => (zB3 (r.get a) (r.get b) (r.get c)).map (r.put d)
 | .bin op x y => (zFm op (r.get x) (r.get y)).map (r.put d)
 | .beq neg x y => (zFu neg (r.get x) (r.get y)).map (r.put d)
 | .eqa n neg x y => (zFs n neg (r.get x) (r.get y)).map (r.put d)
 | .un op x => (aun op (r.get x)).map (r.put d)
 | .conv k x => (zBE k (r.get x)).map (r.put d)
 | .len x => (zED (r.get x)).map (r.put d)
 | .fa off x => (afa off (r.get x)).map (r.put d)
 | .ia sz x i => (aia r.st sz (r.get x) (r.get i)).map (r.put d)
 | .iaa n sz x i => (zFr n sz (r.get x) (r.get i)).map (r.put d)
 | .ld sz x => (ald r.st sz (r.get x)).map (r.put d)
 | .st sz x v => (ast r sz (r.get v).cells (r.get x)).map fun r => r.put d vun
 | .al zero fresh => some (aal r d zero fresh)
 | .box sz x => if (r.get x).cells.length = sz ∧ C.kns (r.get x).cells = true then some ((r.alloc (.cells 0 sz [(r.get x).cells])).put d (.one (.ptr r.st.length 0 0 0))) else none
 | .bld zero parts fresh => (zm9 r parts (zf8 r.st.length fresh zero)).map (zEj r d fresh)
 | .bsl b sz zero parts => (zn9 r sz parts zero).bind (zvN r d sz b)
 | .nl b sz => anl r d sz b
 | .app sz s x => (elems r.st (r.get x)).bind fun ys => if zn4 sz ys then zDN r d sz ys (r.get s) else none
 | .cpy sz x y => (elems r.st (r.get y)).bind fun ys => if zn4 sz ys then zFd r d sz ys (r.get x) else none
 | .mks zero fresh n => zEg r d zero fresh (r.get n)
 | .mkc sz n => zFh r d sz (r.get n)
 | .mkr zero j sz n => zFc r d zero j sz (r.get n)
 | .slc sz x lo hi mx => if zBG r hi mx = true then (zFg r sz lo hi mx.isSome (r.get x)).map (r.put d) else none
 | .ext x i => (zFt i (r.get x)).map (r.put d)
 | .fld off sz x => (zFb off sz (r.get x)).map (r.put d)
 | .nil x => (zFv (r.get x)).map (r.put d)
 | .mkf f first caps => some (r.put d (.one (.fn f ((r.gets first).map V.c1) ((r.gets caps).map V.c1))))
 | .mkm => some ((r.alloc (.mp [])).put d (.one (.map r.st.length)))
 | .lk zero ok m k => (alk r.st zero ok (r.get m) (r.get k)).map (r.put d)
 | .mu m k v => (amu r (r.get v) (r.get m) (r.get k)).map fun r => r.put d vun
 | .mxn isMax x y => (zFq isMax (r.get x) (r.get y)).map (r.put d)
 | .call m f args => zoe call r d m (r.gets args) (r.get f)
 | .no _ => none
def znC (call : zae) (r : R) (d : D) (op : Op) (b : Bool) : V → Option R
 | .one (.f (.lit (.bool t))) => if t = b then za8 call r d op else some (r.put d (.tup []))
 | .tup [] => some (r.put d (.tup []))
 | _ => none
def step (call : zae) (r : R) : Oper → Option R
 | ⟨d,op,none⟩ => za8 call r d op
 | ⟨d,op,some (x,b)⟩ => znC call r d op b (r.get x)
def steps (call : zae) : List Oper → R → Option R
 | [],r => some r
 | o :: os,r => (step call r o).bind (steps call os)
def Value.beq : Value → Value → Bool
 | .int k a,.int k' b => decide (k = k') && decide (a = b)
 | .bool a,.bool b => a == b
 | .string a,.string b => decide (a.data.toList = b.data.toList)
 | _,_ => false
mutual
def Fz.beq : Fz → Fz → Bool
 | .lit v,.lit u => Value.beq v u
 | .sl xs,.sl ys => Fz.beqs xs ys
 | _,_ => false
def Fz.beqR : List Fz → List Fz → Bool
 | [],[] => true
 | x :: xs,y :: ys => x.beq y && Fz.beqR xs ys
 | _,_ => false
def Fz.beqs : List (List Fz) → List (List Fz) → Bool
 | [],[] => true
 | x :: xs,y :: ys => Fz.beqR x y && Fz.beqs xs ys
 | _,_ => false
end
def C.beq : C → C → Bool
 | .f x,.f y => x.beq y
 | .ap t k xs,.ap t' k' ys => decide (t = t') && decide (k = k') && Fz.beqs xs ys
 | .ptr a b c d,.ptr a' b' c' d' => decide (a = a') && decide (b = b') && decide (c = c') && decide (d = d')
 | .fp xs o,.fp ys o' => Fz.beqR xs ys && decide (o = o')
 | .own a b c d,.own a' b' c' d' => decide (a = a') && decide (b = b') && decide (c = c') && decide (d = d')
 | .map a,.map b => decide (a = b)
 | _,_ => false
def C.beqs : List C → List C → Bool
 | [],[] => true
 | x :: xs,y :: ys => x.beq y && C.beqs xs ys
 | _,_ => false
def V.beq : V → V → Bool
 | .one c,.one d => c.beq d
 | .agg cs,.agg ds => C.beqs cs ds
 | _,_ => false
def zwp : zae:=fun _ _ _ => none
def zuE : Option R → Option R → Bool
 | some a,some b => (a.rs.headD vun).beq (b.rs.headD vun)
 | _,_ => false
def zdb (c : zae) (ops : List Oper) (r : R) (p : Nat × Nat) : Bool:=match steps c (ops.take p.1) r,steps c (ops.take p.2) r,ops[p.1]? with
 | some rj,some rk,some x => zuE (step zwp { rj with st:=rk.st } x) (step zwp rj x)
 | _,_,_ => false
def zxw (c : zae) (ps : List (Nat × Nat)) (ops : List Oper) (r : R) : Option R:=(steps c ops r).bind fun r1 => if ps.all (zdb c ops r) then some r1 else none
structure St where
 env : List V
 st : zd
 base : Nat
 lim : Nat
def clr : List Bool → List V → List V
 | [],_ => []
 | true :: bs,v :: vs => v :: clr bs vs
 | false :: bs,_ :: vs => vun :: clr bs vs
 | _,[] => []
def zmg (n : Nat) (env : List V) (σ : zd) : Option zd :=
 if σ.length ≤ n then some σ else if V.lts n env && Obs.lt n (σ.take n) then some (σ.take n) else none
def St.mkSt (s : St) (env : List V) (σ : zd) : St:={ s with env:=env,st:=σ }
def St.clear (s : St) (live : List Bool) (objs : Nat) : Option St :=
 (zmg (s.base + objs) (clr live s.env) s.st).map (s.mkSt (clr live s.env))
def zEk (e : Ex) (s : St) : Ex × St:=(e,s)
def findLabel : Code → Nat → Option Code
 | .seq a b,l => match findLabel a l with
   | some rest => some (.seq rest b)
   | none => findLabel b l
 | .label l',l => if l' = l then some .skip else none
 | _,_ => none
def enter (fn : Fun) (args : List V) (σ : zd) : St:=⟨args ++ yf (fn.nslots - args.length) vun,σ,σ.length,σ.length + fn.keep⟩
def zCw (lim : Nat) (σ : zd) : C → Option Fz
 | .own id ver lo n => if lim ≤ id then ((σ[id]?).bind (Ob.frz ver lo n)).map Fz.sl else none
 | c => ztr c
def zja (lim : Nat) (σ : zd) : List C → Option (List Fz)
 | [] => some []
 | c :: cs => zfF (zCw lim σ c) (zja lim σ cs)
def zCV (lim : Nat) (σ : zd) : V → Option V
 | .one (.own id ver lo n) => if lim ≤ id then ((σ[id]?).bind (Ob.frz ver lo n)).map vsl else none
 | .one (.ap _ _ xs) => some (vsl xs)
 | .agg cs => (zja lim σ cs).map zAN
 | v => some v
def ztl (σ : zd) (env : List V) : Nat × Option (Option Nat) → Option V
 | (t,none) => some (env.getD t vun)
 | (t,some sz) => ald σ sz (env.getD t vun)
def zxX (raw : Bool) (lim : Nat) (σ : zd) (v : V) : Option V:=if raw then some v else zCV lim σ v
def outs (raw : Bool) (lim : Nat) (σ : zd) (env : List V) : List (Nat × Option (Option Nat)) → Option (List V)
 | [] => some []
 | t :: ts => zfF ((ztl σ env t).bind (zxX raw lim σ)) (outs raw lim σ env ts)
def zCH : List V → V
 | [v] => v
 | vs => .tup vs
def zmq (lim : Nat) (σ : zd) (vs : List V) : Option (V × zd):=(zmg lim vs σ).map fun σ' => (zCH vs,σ')
def leave (raw : Bool) (res : List (Nat × Option (Option Nat))) : Ex × St → Option (V × zd)
 | (.normal,s) => (outs raw s.lim s.st s.env res).bind (zmq s.lim s.st)
 | (.ret,s) => (outs raw s.lim s.st s.env res).bind (zmq s.lim s.st)
 | _ => none
inductive Entry where
 | fn (f : Fun)
 | ext (f : List V → zd → Option (V × zd))
def zfI (T : Nat → Option Entry) (E : Code → St → Option (Ex × St)) : zae:=fun f args σ =>
 match T f with
 | some (.fn fn) => if args.length = fn.np then (E fn.body (enter fn args σ)).bind (leave fn.raw fn.results) else none
 | some (.ext g) => g args σ
 | none => none
def zqo (E : St → Option (Ex × St)) : Ex × St → Option (Ex × St)
 | (.normal,s) => E s
 | (.exit i,s) => some (.exit i,s)
 | (.goto i,s) => some (.goto i,s)
 | (.ret,s) => some (.ret,s)
def zsB (A B : St → Option (Ex × St)) (s : St) : V → Option (Ex × St)
 | .one (.f (.lit (.bool t))) => if t then A s else B s
 | _ => none
def zt3 (id : Nat) : Ex × St → Ex × St
 | (.exit id',s) => if id' = id then (.normal,s) else (.exit id',s)
 | r => r
def zqm (E : St → Option (Ex × St)) (live : List Bool) (objs : Nat) : Ex × St → Option (Ex × St)
 | (.normal,s) => (s.clear live objs).bind E
 | (.exit i,s) => some (.exit i,s)
 | (.goto i,s) => some (.goto i,s)
 | (.ret,s) => some (.ret,s)
def scK (E : Code → St → Option (Ex × St)) (body : Code) : Ex × St → Option (Ex × St)
 | (.goto l,s) => match findLabel body l with
   | some rest => E (.sc body rest) s
   | none => some (.goto l,s)
 | r => some r
def zAe (base lim : Nat) (r : R) : Ex × St:=(.normal,⟨r.env,r.st,base,lim⟩)
def zvE (off : Nat) (sz : Option Nat) (row : Nat) : List (Int × V) → List (Int × V) → Option (List (Int × V))
 | [],ds => some ds
 | e :: es,ds => if e.2.cells.length = row ∧ C.kns e.2.cells = true then (zFb off sz e.2).bind fun v => zvE off sz row es (zlV e.1 v ds) else none
def zCF (sp : Spec) (s : St) (σ : zd) : V → V → Option St
 | .one (.map id),.one (.map id') => if id = id' then none else
  ((σ[id]?).bind Ob.entries).bind fun es => ((σ[id']?).bind Ob.entries).bind fun ds => (zvE sp.off sp.sz sp.row es ds).map fun ds' => s.mkSt s.env (σ.set id' (.mp ds'))
 | _,_ => none
def zA2 (sp : Spec) (s : St) : Option St:=(steps zwp sp.pre ⟨[],s.env,s.st,s.base,s.lim⟩).bind fun r => zCF sp (s.mkSt r.env r.st) r.st (r.get sp.m) (r.env.getD sp.dst vun)
def zO (T : Nat → Option Entry) : Nat → Code → St → Option (Ex × St)
 | 0,_,_ => none
 | n + 1,c,s =>
   match c with
   | .skip => some (.normal,s)
   | .reg ops => (steps (zfI T (zO T n)) ops ⟨[],s.env,s.st,s.base,s.lim⟩).map (zAe s.base s.lim)
   | .regd ps ops => (zxw (zfI T (zO T n)) ps ops ⟨[],s.env,s.st,s.base,s.lim⟩).map (zAe s.base s.lim)
   | .spec sp => (zA2 sp s).map (zEk .normal)
   | .seq a b => (zO T n a s).bind (zqo (zO T n b))
   | .cond x a b => zsB (zO T n a) (zO T n b) s ((R.mk [] s.env s.st s.base s.lim).get x)
   | .block id body => (zO T n body s).map (zt3 id)
   | .loop live objs body => (zO T n body s).bind (zqm (zO T n (.loop live objs body)) live objs)
   | .exit id live objs => (s.clear live objs).map (zEk (.exit id))
   | .scope body => zO T n (.sc body body) s
   | .sc body cur => (zO T n cur s).bind (scK (zO T n) body)
   | .label _ => some (.normal,s)
   | .goto l live objs => (s.clear live objs).map (zEk (.goto l))
   | .ret live => some (.ret,s.mkSt (clr live s.env) s.st)
def Le {α : Type} (a b : Option α) : Prop:=∀ r,a = some r → b = some r
theorem Le.refl {α : Type} (a : Option α) : Le a a:=fun _ h => h
theorem Le.bind {α β : Type} {a b : Option α} {K d : α → Option β} (h : Le a b) (g : ∀ x,Le (K x) (d x)) : Le (a.bind K) (b.bind d):=by
 intro r c;rw [ya] at c ⊢;obtain ⟨x,e,f⟩:=c;exact ⟨x,h x e,g x r f⟩
theorem Le.map {α β : Type} {a b : Option α} (h : Le a b) (f : α → β) : Le (a.map f) (b.map f):=by
 intro r c;rw [yb] at c ⊢;obtain ⟨x,d,e⟩:=c;exact ⟨x,h x d,e⟩
def LeC (c c' : zae) : Prop:=∀ f a σ,Le (c f a σ) (c' f a σ)
theorem zxP {c a : zae} (h : LeC c a) (r : R) (d : D) (m : Mode) (aS : List V) (v : V) : Le (zoe c r d m aS v) (zoe a r d m aS v):=by
 unfold zoe;split
 ·cases m
  ·exact ((Le.refl _).bind fun aS => h _ _ _).bind fun _ => Le.refl _
  ·dsimp only
   split
   ·exact Le.refl _
   ·exact ((Le.refl _).bind fun aS => h _ _ _).map _
  ·exact (h _ _ _).map _
 ·exact Le.refl _
theorem zoR {c a : zae} (h : LeC c a) (r : R) (d : D) (o : Op) : Le (za8 c r d o) (za8 a r d o):=by
 cases o
 case call m f args => exact zxP h r d m _ _
 all_goals exact Le.refl _
theorem zl2 {c a : zae} (h : LeC c a) (r : R) (o : Oper) : Le (step c r o) (step a r o):=by
 obtain ⟨d,op,g⟩:=o
 cases g with
 | none => exact zoR h r d op
 | some g =>
   obtain ⟨x,b⟩:=g;simp only [step];generalize r.get x = v;unfold znC;split
   ·split
    ·exact zoR h r d op
    ·exact Le.refl _
   ·exact Le.refl _
   ·exact Le.refl _
theorem zdt {c a : zae} (h : LeC c a) : ∀ (os : List Oper) (r : R),Le (steps c os r) (steps a os r)
 | [],_ => Le.refl _
 | o :: os,r => (zl2 h r o).bind fun x => zdt h os x
theorem zjc {c b : zae} (h : LeC c b) (ops : List Oper) (r : R) (p : Nat × Nat) (a : zdb c ops r p = true) : zdb b ops r p = true:=by
 unfold zdb at a ⊢;split at a
 ·rename_i i g x d f e
  rw [zdt h _ _ _ d,zdt h _ _ _ f,e];exact a
 ·cases a
theorem ztR {c e : zae} (h : LeC c e) (d : List (Nat × Nat)) (ops : List Oper) (r : R) : Le (zxw c d ops r) (zxw e d ops r):=by
 intro r1 a;unfold zxw at a ⊢;rw [ya] at a ⊢;obtain ⟨j,g,b⟩:=a;refine ⟨j,zdt h _ _ _ g,?_⟩;split at b
 ·rename_i f
  rw [if_pos (yc.2 fun p i => zjc h _ _ _ (yc.1 f p i))];exact b
 ·cases b
theorem zkF {T : Nat → Option Entry} {E b : Code → St → Option (Ex × St)} (h : ∀ c s,Le (E c s) (b c s)) : LeC (zfI T E) (zfI T b):=by
 intro f a σ;unfold zfI;split
 ·split
  ·exact (h _ _).bind fun _ => Le.refl _
  ·exact Le.refl _
 ·exact Le.refl _
 ·exact Le.refl _
theorem ztB {E a : St → Option (Ex × St)} (h : ∀ s,Le (E s) (a s)) (x : Ex × St) : Le (zqo E x) (zqo a x):=by
 obtain ⟨e,s⟩:=x
 cases e <;> first | exact h s | exact Le.refl _
theorem zqB {E a : St → Option (Ex × St)} (h : ∀ s,Le (E s) (a s)) (b : List Bool) (c : Nat) (x : Ex × St) : Le (zqm E b c x) (zqm a b c x):=by
 obtain ⟨e,s⟩:=x
 cases e <;> first | exact (Le.refl _).bind h | exact Le.refl _
theorem zxs {A a B b : St → Option (Ex × St)} (h : ∀ s,Le (A s) (a s)) (c : ∀ s,Le (B s) (b s)) (s : St) (v : V) : Le (zsB A B s v) (zsB a b s v):=by
 unfold zsB;split
 ·split
  ·exact h s
  ·exact c s
 ·exact Le.refl _
theorem zvT {E a : Code → St → Option (Ex × St)} (h : ∀ c s,Le (E c s) (a c s)) (body : Code) (x : Ex × St) : Le (scK E body x) (scK a body x):=by
 obtain ⟨e,s⟩:=x;cases e <;> simp only [scK]
 case goto l =>
  split
  ·exact h _ _
  ·exact Le.refl _
 all_goals exact Le.refl _
theorem zrr (T : Nat → Option Entry) : ∀ (n : Nat) (c : Code) (s : St),Le (zO T n c s) (zO T (n + 1) c s)
 | 0,_,_ => fun r h => by simp [zO] at h
 | n + 1,c,s => by
   have d:=zrr T n;cases c <;> simp only [zO]
   case reg ops => exact (zdt (zkF d) ops _).map _
   case regd ps ops => exact (ztR (zkF d) ps ops _).map _
   case seq a b => exact (d a s).bind (ztB (d b))
   case cond x a b => exact zxs (d a) (d b) s _
   case block id body => exact (d body s).map _
   case loop lv ob body => exact (d body s).bind (zqB (d _) lv ob)
   case scope body => exact d _ _
   case sc body cur => exact (d cur s).bind (zvT d body)
   all_goals exact Le.refl _
theorem zir (T : Nat → Option Entry) {n m : Nat} (a : n ≤ m) (c : Code) (s : St) : Le (zO T n c s) (zO T m c s):=by
 induction a with
 | refl => exact Le.refl _
 | step _ ih => exact fun r h => zrr T _ _ _ r (ih r h)
open Classical in
noncomputable def exec (T : Nat → Option Entry) (c : Code) (s : St) : Option (Ex × St) :=
 if h : ∃ r n,zO T n c s = some r then some h.choose else none
theorem zc2 {T : Nat → Option Entry} {c : Code} {s : St} {r : Ex × St} : exec T c s = some r ↔ ∃ n,zO T n c s = some r:=by
 unfold exec;constructor
 ·intro h
  split at h
  ·rename_i a
   injection h with h;subst h;exact a.choose_spec
  ·cases h
 ·rintro ⟨n,b⟩
  have a : ∃ r n,zO T n c s = some r:=⟨r,n,b⟩;rw [dif_pos a];obtain ⟨m,hm⟩:=a.choose_spec;have e:=zir T (yd n m) _ _ _ b;have d:=zir T (ye n m) _ _ _ hm;rw [e] at d;exact d.symm
noncomputable def call (T : Nat → Option Entry) : zae:=zfI T (exec T)
theorem zCA {α : Type} {a b : Option α} (h : ∀ r,a = some r ↔ b = some r) : a = b:=by
 cases a with
 | none => cases b with
   | none => rfl
   | some y => exact ((h y).2 rfl)
 | some x => exact ((h x).1 rfl).symm
theorem zrX {T : Nat → Option Entry} {f : Nat} {a : List V} {σ : zd} {r : V × zd} (h : call T f a σ = some r) : ∃ n,zfI T (zO T n) f a σ = some r:=by
 unfold call zfI at h;unfold zfI;split at h
 ·split at h
  ·rename_i b
   simp only [if_pos b,ya] at h ⊢;obtain ⟨x,c,e⟩:=h;obtain ⟨n,d⟩:=zc2.1 c;exact ⟨n,x,d,e⟩
  ·cases h
 ·exact ⟨0,h⟩
 ·cases h
theorem ziY (T : Nat → Option Entry) {n m : Nat} (h : n ≤ m) : LeC (zfI T (zO T n)) (zfI T (zO T m)):=zkF fun c s => zir T h c s
theorem zko (T : Nat → Option Entry) (n : Nat) : LeC (zfI T (zO T n)) (call T):=zkF fun _ _ _ a => zc2.2 ⟨n,a⟩
theorem zyu {T : Nat → Option Entry} {r : R} {d : D} {m : Mode} {aS : List V} {v : V} {x : R} (a : zoe (call T) r d m aS v = some x) : ∃ n,zoe (zfI T (zO T n)) r d m aS v = some x:=by
 unfold zoe at a ⊢;split at a
 ·cases m
  ·simp only [ya] at a ⊢
   obtain ⟨y,⟨aS,g,b⟩,e⟩:=a;obtain ⟨n,f⟩:=zrX b;exact ⟨n,y,⟨aS,g,f⟩,e⟩
  ·dsimp only at a ⊢
   split at a
   ·cases a
   ·rename_i c
    simp only [if_neg c,yb,ya] at a ⊢;obtain ⟨y,⟨aS,g,b⟩,e⟩:=a;obtain ⟨n,f⟩:=zrX b;exact ⟨n,y,⟨aS,g,f⟩,e⟩
  ·simp only [yb] at a ⊢
   obtain ⟨y,b,e⟩:=a;obtain ⟨n,f⟩:=zrX b;exact ⟨n,y,f,e⟩
 ·cases a
theorem zqS {T : Nat → Option Entry} {r : R} {d : D} {o : Op} {x : R} (a : za8 (call T) r d o = some x) : ∃ n,za8 (zfI T (zO T n)) r d o = some x:=by
 cases o
 case call m f args => exact zyu a
 all_goals exact ⟨0,a⟩
theorem zBz {T : Nat → Option Entry} {r : R} {o : Oper} {x : R} (a : step (call T) r o = some x) : ∃ n,step (zfI T (zO T n)) r o = some x:=by
 obtain ⟨d,op,g⟩:=o
 cases g with
 | none => exact zqS a
 | some g =>
   obtain ⟨y,b⟩:=g;simp only [step] at a ⊢;generalize r.get y = v at a ⊢;unfold znC at a ⊢;split at a
   ·split at a
    ·rename_i h
     obtain ⟨n,c⟩:=zqS a;exact ⟨n,by rw [if_pos h]; exact c⟩
    ·rename_i h
     exact ⟨0,by rw [if_neg h]; exact a⟩
   ·exact ⟨0,a⟩
   ·cases a
theorem zjE {T : Nat → Option Entry} : ∀ (os : List Oper) {r x : R},steps (call T) os r = some x → ∃ n,steps (zfI T (zO T n)) os r = some x
 | [],_,_,hs => ⟨0,hs⟩
 | o :: os,r,x,hs => by
   simp only [steps,ya] at hs ⊢;obtain ⟨r1,a,c⟩:=hs;obtain ⟨n,b⟩:=zBz a;obtain ⟨m,hm⟩:=zjE os c;exact ⟨max n m,r1,zl2 (ziY T (yd n m)) _ _ _ b,zdt (ziY T (ye n m)) os _ _ hm⟩
theorem zCB {T : Nat → Option Entry} (c : List (Nat × Nat)) (os : List Oper) {r x : R} (h : zxw (call T) c os r = some x) : ∃ n,zxw (zfI T (zO T n)) c os r = some x:=by
 unfold zxw at h;rw [ya] at h;obtain ⟨w,l,f⟩:=h;split at f
 ·rename_i e
  injection f with f;subst f;obtain ⟨n,t⟩:=zjE os l
  have d : ∀ c : List (Nat × Nat),c.all (zdb (call T) os r) = true → ∃ m,c.all (zdb (zfI T (zO T m)) os r) = true:=by
   intro c
   induction c with
   | nil => exact fun _ => ⟨0,rfl⟩
   | cons p c ih =>
     intro e;simp only [yh,yg] at e;obtain ⟨m,hm⟩:=ih e.2;have g:=e.1;unfold zdb at g;split at g
     ·rename_i u v x q o s
      obtain ⟨a,i⟩:=zjE _ q;obtain ⟨b,j⟩:=zjE _ o;refine ⟨max m (max a b),?_⟩;simp only [yh,yg];refine ⟨?_,yc.2 fun p k => zjc (ziY T (yd m _)) _ _ _ (yc.1 hm p k)⟩;unfold zdb;rw [zdt (ziY T (by omega : a ≤ max m (max a b))) _ _ _ i,zdt (ziY T (by omega : b ≤ max m (max a b))) _ _ _ j,s];exact g
     ·cases g
  obtain ⟨m,hm⟩:=d c e;refine ⟨max n m,?_⟩;unfold zxw;rw [zdt (ziY T (yd n m)) _ _ _ t];simp only [Option.bind_some];rw [if_pos (yc.2 fun p k => zjc (ziY T (ye n m)) _ _ _ (yc.1 hm p k))]
 ·cases f
section eqs
variable (T : Nat → Option Entry) (s : St)
theorem zfP {c : Code} {F : Nat → Option (Ex × St)} {L : Option (Ex × St)} (b : ∀ n,zO T (n + 1) c s = F n) (d : ∀ r,L = some r ↔ ∃ n,F n = some r) : exec T c s = L:=by
 refine zCA fun r => ?_;rw [zc2,d];constructor
 ·rintro ⟨n,a⟩
  cases n with
  | zero => simp [zO] at a
  | succ n => exact ⟨n,by rw [← b]; exact a⟩
 ·rintro ⟨n,a⟩
  exact ⟨n + 1,by rw [b]; exact a⟩
theorem zsu {β : Type} {c : Code} {G : Nat → Ex × St → Option β} {K : Ex × St → Option β} (d : ∀ x n m,n ≤ m → Le (G n x) (G m x)) (b : ∀ x r,K x = some r ↔ ∃ n,G n x = some r) (r : β) :
  (exec T c s).bind K = some r ↔ ∃ n,(zO T n c s).bind (G n) = some r:=by
 simp only [ya];constructor
 ·rintro ⟨x,a,g⟩
  obtain ⟨n,f⟩:=zc2.1 a;obtain ⟨m,hm⟩:=(b _ _).1 g;exact ⟨max n m,x,zir T (yd n m) _ _ _ f,d _ _ _ (ye n m) _ hm⟩
 ·rintro ⟨n,x,a,e⟩
  exact ⟨x,zc2.2 ⟨n,a⟩,(b _ _).2 ⟨n,e⟩⟩
theorem ze1 {α : Type} {L : Option α} (r : α) : L = some r ↔ ∃ _n : Nat,L = some r:=⟨fun h => ⟨0,h⟩,fun ⟨_,h⟩ => h⟩
theorem zeS : exec T .skip s = some (.normal,s):=zfP T s (fun _ => by rw [zO]) ze1
theorem zra (l : Nat) : exec T (.label l) s = some (.normal,s):=zfP T s (fun _ => by rw [zO]) ze1
theorem zyf (l : Nat) (a : List Bool) (b : Nat) : exec T (.goto l a b) s = (s.clear a b).map (zEk (.goto l)):=zfP T s (fun _ => by rw [zO]) ze1
theorem zzB (l : Nat) (a : List Bool) (b : Nat) : exec T (.exit l a b) s = (s.clear a b).map (zEk (.exit l)):=zfP T s (fun _ => by rw [zO]) ze1
theorem zBV (a : List Bool) : exec T (.ret a) s = some (.ret,s.mkSt (clr a s.env) s.st):=zfP T s (fun _ => by rw [zO]) ze1
theorem zBo (ops : List Oper) : exec T (.reg ops) s = (steps (call T) ops ⟨[],s.env,s.st,s.base,s.lim⟩).map (zAe s.base s.lim):=by
 refine zfP T s (fun n => by rw [zO]) fun r => ?_;simp only [yb];constructor
 ·rintro ⟨x,a,e⟩
  obtain ⟨n,b⟩:=zjE ops a;exact ⟨n,x,b,e⟩
 ·rintro ⟨n,x,a,e⟩
  exact ⟨x,zdt (zko T n) ops _ _ a,e⟩
theorem zzF (a : List (Nat × Nat)) (ops : List Oper) : exec T (.regd a ops) s = (zxw (call T) a ops ⟨[],s.env,s.st,s.base,s.lim⟩).map (zAe s.base s.lim):=by
 refine zfP T s (fun n => by rw [zO]) fun r => ?_;simp only [yb];constructor
 ·rintro ⟨x,b,e⟩
  obtain ⟨n,c⟩:=zCB a ops b;exact ⟨n,x,c,e⟩
 ·rintro ⟨n,x,b,e⟩
  exact ⟨x,ztR (zko T n) a ops _ _ b,e⟩
theorem zfa (a b : Code) : exec T (.seq a b) s = (exec T a s).bind (zqo (exec T b)):=by
 refine zfP T s (fun n => by rw [zO]) fun r => zsu T s ?_ ?_ r
 ·exact fun x n m c => ztB (fun s => zir T c b s) x
 ·rintro ⟨e,d⟩ r
  cases e <;> first | exact zc2 | exact ze1 r
theorem zyb (x : X) (a b : Code) : exec T (.cond x a b) s = zsB (exec T a) (exec T b) s ((R.mk [] s.env s.st s.base s.lim).get x):=by
 refine zfP T s (fun n => by rw [zO]) fun r => ?_;generalize (R.mk [] s.env s.st s.base s.lim).get x = v;unfold zsB;split
 ·rename_i t
  cases t <;> exact zc2
 ·exact ze1 r
theorem zw9 (id : Nat) (body : Code) : exec T (.block id body) s = (exec T body s).map (zt3 id):=by
 refine zfP T s (fun n => by rw [zO]) fun r => ?_;simp only [yb];constructor
 ·rintro ⟨x,a,e⟩
  obtain ⟨n,b⟩:=zc2.1 a;exact ⟨n,x,b,e⟩
 ·rintro ⟨n,x,a,e⟩
  exact ⟨x,zc2.2 ⟨n,a⟩,e⟩
theorem zx1 (live : List Bool) (a : Nat) (body : Code) : exec T (.loop live a body) s = (exec T body s).bind (zqm (exec T (.loop live a body)) live a):=by
 refine zfP T s (fun n => by rw [zO]) fun r => zsu T s ?_ ?_ r
 ·exact fun x n m c => zqB (fun s => zir T c _ s) live a x
 ·rintro ⟨e,f⟩ r
  cases e
  case normal =>
   simp only [zqm,ya];constructor
   ·rintro ⟨x,b,h⟩
    obtain ⟨n,d⟩:=zc2.1 h;exact ⟨n,x,b,d⟩
   ·rintro ⟨n,x,b,h⟩
    exact ⟨x,b,zc2.2 ⟨n,h⟩⟩
  all_goals exact ze1 r
theorem zih (body : Code) : exec T (.scope body) s = exec T (.sc body body) s :=
 zfP T s (fun n => by rw [zO]) fun _ => zc2
theorem zeR (body cur : Code) : exec T (.sc body cur) s = (exec T cur s).bind (scK (exec T) body):=by
 refine zfP T s (fun n => by rw [zO]) fun r => zsu T s ?_ ?_ r
 ·exact fun x n m a => zvT (fun c s => zir T a c s) body x
 ·rintro ⟨e,b⟩ r
  cases e <;> simp only [scK]
  case goto l =>
   split
   ·exact zc2
   ·exact ze1 r
  all_goals exact ze1 r
end eqs
theorem ze {T : Nat → Option Entry} {f : Nat} {fn : Fun} (h : T f = some (.fn fn)) (args : List V) (σ : zd) : call T f args σ = if args.length = fn.np then (exec T fn.body (enter fn args σ)).bind (leave fn.raw fn.results) else none:=by
 simp only [call,zfI,h]
end Go.A
