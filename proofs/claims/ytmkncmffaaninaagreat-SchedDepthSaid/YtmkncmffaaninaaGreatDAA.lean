/- A part of the proof of SchedDepth. Conditions: none. -/
import GoSem.Core.View
set_option linter.unusedVariables false
set_option linter.unusedSimpArgs false
set_option linter.unusedSectionVars false
open Option renaming bind_eq_some_iff → ya,map_eq_some_iff → yb
open List renaming all_eq_true → yc,replicate → yf,all_cons → yh,range → yi
open Nat renaming le_max_left → yd,le_max_right → ye
open Bool renaming and_eq_true → yg
namespace Go.A
inductive Fz where
 | lit (v : Value)
 | sl (xs : List (List Fz))
 deriving Inhabited
inductive C where
 | f (x : Fz)
 | ap (tok k : Nat) (xs : List (List Fz))
 | ptr (id ver i off : Nat)
 | fp (cs : List Fz) (off : Nat)
 | own (id ver lo n : Nat)
 | map (id : Nat)
 | fn (f : Nat) (first caps : List C)
 | un
 deriving Inhabited
inductive V where
 | one (c : C)
 | agg (cs : List C)
 | tup (vs : List V)
 deriving Inhabited
inductive Ob where
 | cells (ver sz : Nat) (es : List (List C))
 | tok (sz : Nat) (fr : List Nat)
 | mp (es : List (Int × V))
 deriving Inhabited
abbrev zd:=List Ob
inductive X where
 | l (d : Nat)
 | s (t : Nat)
 | c (v : V)
inductive Mode where
 | cl
 | ck
 | op
inductive B where
 | fz
 | tk
 | rw
inductive Op where
 | mv (x : X)
 | pick (c a b : X)
 | bin (op : BinOp) (x y : X)
 | eqa (n : Nat) (neg : Bool) (x y : X)
 | beq (neg : Bool) (x y : X)
 | pnil (neg : Bool) (x : X)
 | un (op : UnOp) (x : X)
 | conv (k : IntKind) (x : X)
 | len (x : X)
 | lens (x : X)
 | fa (off : Nat) (x : X)
 | ia (sz : Nat) (x i : X)
 | iaa (n sz : Nat) (x i : X)
 | ld (sz : Option Nat) (x : X)
 | st (sz : Nat) (x v : X)
 | al (zero : List C) (fresh : List (Nat × Nat))
 | box (sz : Nat) (x : X)
 | bld (zero : List C) (parts : List (Nat × Nat × X)) (fresh : List (Nat × Nat))
 | bsl (b : B) (sz : Nat) (zero : List (List C)) (parts : List (Nat × X))
 | nl (b : B) (sz : Nat)
 | app (sz : Nat) (s x : X)
 | cpy (sz : Nat) (x y : X)
 | mks (zero : List C) (fresh : Option (Nat × Nat)) (n : X)
 | mkc (sz : Nat) (n : X)
 | mkr (zero : List C) (j sz : Nat) (n : X)
 | slc (sz : Nat) (x : X) (lo hi mx : Option X)
 | slcs (x : X) (lo hi : Option X)
 | nlc (b : B) (sz : Nat) (x : X)
 | ext (x : X) (i : Nat)
 | fld (off : Nat) (sz : Option Nat) (x : X)
 | idx (n : Nat) (x i : X)
 | bxf (sz : Nat) (x : X)
 | frz (sz : Nat) (x : X)
 | stn (sz : Nat) (x : X)
 | sla (n lo : Nat) (x : X)
 | str (x : X)
 | steq (neg : Bool) (x y : X)
 | nil (x : X)
 | mkf (f : Nat) (first caps : List X)
 | mkm
 | lk (zero : V) (ok : Bool) (m k : X)
 | mu (m k v : X)
 | mxn (isMax : Bool) (x y : X)
 | call (m : Mode) (f : X) (args : List X)
 | no (why : String)
inductive D where
 | no
 | loc
 | slot (t : Nat)
structure Oper where
 dst : D
 op : Op
 guard : Option (X × Bool)
structure Spec where
 pre : List Oper
 m : X
 dst : Nat
 off : Nat
 sz : Option Nat
 row : Nat
 ns : List Nat
inductive Code where
 | skip
 | reg (ops : List Oper)
 | regd (ps : List (Nat × Nat)) (ops : List Oper)
 | spec (sp : Spec)
 | seq (a b : Code)
 | cond (c : X) (thn els : Code)
 | block (id : Nat) (body : Code)
 | loop (live : List Bool) (objs : Nat) (body : Code)
 | exit (id : Nat) (live : List Bool) (objs : Nat)
 | scope (body : Code)
 | sc (body cur : Code)
 | label (l : Nat)
 | goto (l : Nat) (live : List Bool) (objs : Nat)
 | ret (live : List Bool)
structure Fun where
 np : Nat
 nslots : Nat
 keep : Nat
 raw : Bool
 results : List (Nat × Option (Option Nat))
 body : Code
inductive Ex where
 | normal
 | exit (id : Nat)
 | goto (l : Nat)
 | ret
 deriving DecidableEq
def LIM : Nat:=4294967296
structure R where
 rs : List V
 env : List V
 st : zd
 base : Nat
 lim : Nat
def vun : V:=.one .un
def R.get (r : R) : X → V
 | .l k => r.rs.getD k vun
 | .s t => r.env.getD t vun
 | .c v => v
def R.put (r : R) : D → V → R
 | .no,_ => { r with rs:=vun :: r.rs }
 | .loc,v => { r with rs:=v :: r.rs }
 | .slot t,v => { r with rs:=vun :: r.rs,env:=r.env.set t v }
def V.cells : V → List C
 | .one c => [c]
 | .agg cs => cs
 | .tup _ => []
mutual
def C.lt (n : Nat) : C → Bool
 | .f _ => true
 | .ap t _ _ => decide (t < n)
 | .ptr id _ _ _ => decide (id < n)
 | .fp _ _ => true
 | .own id _ _ _ => decide (id < n)
 | .map id => decide (id < n)
 | .fn _ a b => C.lts n a && C.lts n b
 | .un => true
def C.lts (n : Nat) : List C → Bool
 | [] => true
 | c :: cs => c.lt n && C.lts n cs
end
mutual
def V.lt (n : Nat) : V → Bool
 | .one c => c.lt n
 | .agg cs => C.lts n cs
 | .tup vs => V.lts n vs
def V.lts (n : Nat) : List V → Bool
 | [] => true
 | v :: vs => v.lt n && V.lts n vs
end
def C.ltss (n : Nat) : List (List C) → Bool
 | [] => true
 | e :: es => C.lts n e && C.ltss n es
def C.ltm (n : Nat) : List (Int × V) → Bool
 | [] => true
 | e :: es => e.2.lt n && C.ltm n es
def Ob.lt (n : Nat) : Ob → Bool
 | .cells _ _ es => C.ltss n es
 | .tok _ _ => true
 | .mp es => C.ltm n es
def Obs.lt (n : Nat) : List Ob → Bool
 | [] => true
 | o :: os => o.lt n && Obs.lt n os
def C.kns : List C → Bool
 | [] => true
 | .un :: _ => false
 | _ :: cs => C.kns cs
def Ob.elem (ver i : Nat) : Ob → Option (List C)
 | .cells ver' _ es => if ver' = ver then es[i]? else none
 | _ => none
def zd.elem (σ : zd) (id ver i : Nat) : Option (List C):=(σ[id]?).bind (Ob.elem ver i)
def zd.cell (σ : zd) (id ver i off : Nat) : Option C:=(σ.elem id ver i).bind (·[off]?)
def zDM (e : List C) (off : Nat) (cs : List C) : Option (List C) :=
 if off + cs.length ≤ e.length then some (e.take off ++ (cs ++ e.drop (off + cs.length))) else none
def upd (ver sz i : Nat) (es : List (List C)) (e : List C) : Ob:=.cells ver sz (es.set i e)
def Ob.write (ver i off : Nat) (cs : List C) : Ob → Option Ob
 | .cells ver' sz es => if ver' = ver then ((es[i]?).bind fun e => zDM e off cs).map (upd ver' sz i es) else none
 | _ => none
def R.setOb (r : R) (id : Nat) (o : Ob) : R:={ r with st:=r.st.set id o }
def R.alloc (r : R) (o : Ob) : R:={ r with st:=r.st ++ [o] }
def R.write (r : R) (id ver i off : Nat) (cs : List C) : Option R :=
 if C.kns cs then ((r.st[id]?).bind (Ob.write ver i off cs)).map (r.setOb id) else none
def zFU (k : IntKind) (n : Int) : C:=.f (.lit (.int k n))
def zB1 (k : IntKind) (n : Int) : V:=.one (.f (.lit (.int k n)))
def ziV (b : Bool) : V:=.one (.f (.lit (.bool b)))
def vsl (xs : List (List Fz)) : V:=.one (.f (.sl xs))
def vf (x : Fz) : V:=.one (.f x)
def zAq (xs : List Fz) : V:=.agg (xs.map C.f)
def vfp (e : List Fz) : V:=.one (.fp e 0)
def zEX (c : C) : V:=.one c
def V.c1 : V → C
 | .one c => c
 | _ => .un
def zFw (op : BinOp) (k : IntKind) (a b : Int) : Option V :=
 match op with
 | .add => some (.one (.f (.lit (.int k (k.wrap (a + b))))))
 | .sub => some (.one (.f (.lit (.int k (k.wrap (a - b))))))
 | .mul => some (.one (.f (.lit (.int k (k.wrap (a * b))))))
 | .quo => if b = 0 then none else some (.one (.f (.lit (.int k (k.wrap (a.tdiv b))))))
 | .rem => if b = 0 then none else some (.one (.f (.lit (.int k (a.tmod b)))))
 | .eql => some (.one (.f (.lit (.bool (decide (a = b))))))
 | .neq => some (.one (.f (.lit (.bool (!decide (a = b))))))
 | .lss => some (.one (.f (.lit (.bool (decide (a < b))))))
 | .leq => some (.one (.f (.lit (.bool (decide (a ≤ b))))))
 | .gtr => some (.one (.f (.lit (.bool (decide (b < a))))))
 | .geq => some (.one (.f (.lit (.bool (decide (b ≤ a))))))
 | .and => some (.one (.f (.lit (.int k (k.wrap (BitVec.ofInt k.bits a &&& BitVec.ofInt k.bits b).toNat)))))
 | .or => some (.one (.f (.lit (.int k (k.wrap (BitVec.ofInt k.bits a ||| BitVec.ofInt k.bits b).toNat)))))
 | .xor => some (.one (.f (.lit (.int k (k.wrap (BitVec.ofInt k.bits a ^^^ BitVec.ofInt k.bits b).toNat)))))
 | _ => none
def zyb (op : BinOp) (k : IntKind) (a b : Int) : Option V :=
 if 0 ≤ b then
  match op with
  | .shl => some (.one (.f (.lit (.int k (k.wrap (a * 2 ^ (min b.toNat k.bits)))))))
  | .shr => some (.one (.f (.lit (.int k (a.fdiv (2 ^ (min b.toNat k.bits)))))))
  | _ => none
 else none
def zFB (op : BinOp) (a b : Bool) : Option V :=
 match op with
 | .eql => some (.one (.f (.lit (.bool (a == b)))))
 | .neq => some (.one (.f (.lit (.bool (a != b)))))
 | _ => none
def zq5 : BinOp → Bool
 | .shl | .shr => true
 | _ => false
def zE8 (op : BinOp) : V → V → Option V
 | .one (.f (.lit (.int k a))),.one (.f (.lit (.int k' b))) => if zq5 op then zyb op k a b else if k = k' then zFw op k a b else none
 | _,_ => none
def aun : UnOp → V → Option V
 | .not,.one (.f (.lit (.bool b))) => some (.one (.f (.lit (.bool !b))))
 | .neg,.one (.f (.lit (.int k n))) => some (.one (.f (.lit (.int k (k.wrap (0 - n))))))
 | _,_ => none
def zjR : List C → List C → Option Bool
 | [],[] => some true
 | .f (.lit (.int k a)) :: xs,.f (.lit (.int k' b)) :: ys => if k = k' then (zjR xs ys).map (decide (a = b) && ·) else none
 | _,_ => none
def zE4 (neg : Bool) : V → V → Option V
 | .one (.f (.lit (.bool a))),.one (.f (.lit (.bool b))) => some (ziV (if neg then !(a == b) else a == b))
 | _,_ => none
def zBc (neg : Bool) : V → Option V
 | .one (.ptr _ _ _ _) => some (ziV neg)
 | .one (.fp _ _) => some (ziV neg)
 | .one (.f (.lit (.pointer none))) => some (ziV (!neg))
 | _ => none
def zEj (neg b : Bool) : V:=ziV (if neg then !b else b)
def zE3 (n : Nat) (neg : Bool) : V → V → Option V
 | .agg xs,.agg ys => if xs.length = n then (zjR xs ys).map (zEj neg) else none
 | _,_ => none
abbrev zad:=Nat → List V → zd → Option (V × zd)
def zux : C → Option Fz
 | .f x => some x
 | .ap _ _ xs => some (.sl xs)
 | _ => none
def zfE {α : Type} : Option α → Option (List α) → Option (List α)
 | some x,some xs => some (x :: xs)
 | _,_ => none
def zdl : List C → Option (List Fz)
 | [] => some []
 | c :: cs => zfE (zux c) (zdl cs)
def zaq : List (List C) → Option (List (List Fz))
 | [] => some []
 | c :: cs => zfE (zdl c) (zaq cs)
def Ob.frz (ver lo n : Nat) : Ob → Option (List (List Fz))
 | .cells ver' _ es => if ver' = ver then zaq ((es.drop lo).take n) else none
 | _ => none
def zCY (σ : zd) : V → Option V
 | .one (.own id ver lo n) => ((σ[id]?).bind (Ob.frz ver lo n)).map vsl
 | .one (.fn g [] []) => some (.one (.fn g [] []))
 | .one c => (zux c).map vf
 | .agg cs => (zdl cs).map zAq
 | .tup _ => none
def zpK (σ : zd) : List V → Option (List V)
 | [] => some []
 | v :: vs => zfE (zCY σ v) (zpK σ vs)
def elems (σ : zd) : V → Option (List (List Fz))
 | .one (.own id ver lo n) => (σ[id]?).bind (Ob.frz ver lo n)
 | .one (.f (.sl xs)) => some xs
 | .one (.ap _ _ xs) => some xs
 | _ => none
def Ob.front (sz k : Nat) : Ob → Option Nat
 | .tok sz' fr => if sz' = sz then fr[k]? else none
 | _ => none
def Ob.setFront (k n : Nat) : Ob → Ob
 | .tok sz fr => .tok sz (fr.set k n)
 | o => o
def Ob.grow (n : Nat) (ys : List (List C)) : Ob → Ob
 | .cells ver sz es => .cells (ver + 1) sz (es.take n ++ ys)
 | o => o
def Ob.isRow (ver sz : Nat) : Ob → Bool
 | .cells ver' sz' _ => decide (ver' = ver) && decide (sz' = sz)
 | _ => false
def zoE (r : R) (d : D) (sz t k : Nat) (xs ys : List (List Fz)) (o : Ob) : Option R :=
 if o.front sz k = some xs.length ∧ xs.length + ys.length ≤ LIM then some ((r.setOb t (o.setFront k (xs.length + ys.length))).put d (.one (.ap t k (xs ++ ys)))) else none
def zsq (r : R) (d : D) (sz id ver n : Nat) (ys : List (List Fz)) (o : Ob) : Option R :=
 if o.isRow ver sz = true ∧ 0 < n + ys.length ∧ n + ys.length ≤ LIM then some ((r.setOb id (o.grow n (ys.map fun e => e.map C.f))).put d (.one (.own id (ver + 1) 0 (n + ys.length)))) else if o.isRow ver sz = true ∧ n + ys.length = 0 then some (r.put d (.one (.own id ver 0 0))) else none
def znv (sz : Nat) : List (List Fz) → Bool
 | [] => true
 | e :: es => decide (e.length = sz) && znv sz es
def zCH (r : R) (d : D) (sz : Nat) (ys : List (List Fz)) : V → Option R
 | .one (.ap t k xs) => (r.st[t]?).bind (zoE r d sz t k xs ys)
 | .one (.own id ver 0 n) => (r.st[id]?).bind (zsq r d sz id ver n ys)
 | _ => none
def zjp (r : R) (d : D) (sz id ver lo k : Nat) (ys : List (List Fz)) : Ob → Option R
 | .cells ver' sz' es => if ver' = ver ∧ sz' = sz ∧ lo + k ≤ es.length then
  some ((r.setOb id (.cells ver sz (es.take lo ++ ((ys.take k).map (fun e => e.map C.f) ++ es.drop (lo + k))))).put d (zB1 .i64 k)) else none
 | _ => none
def zEd (r : R) (d : D) (sz : Nat) (ys : List (List Fz)) : V → Option R
 | .one (.own id ver lo n) => if min ys.length n = 0 then none else (r.st[id]?).bind (zjp r d sz id ver lo (min ys.length n) ys)
 | _ => none
def zng (r : R) : List (Nat × Nat × X) → List C → Option (List C)
 | [],cells => some cells
 | (off,sz,x) :: rest,cells => if (r.get x).cells.length = sz ∧ C.kns (r.get x).cells = true then (zDM cells off (r.get x).cells).bind (zng r rest) else none
def znY (r : R) (sz : Nat) : List (Nat × X) → List (List C) → Option (List (List C))
 | [],cells => some cells
 | (i,x) :: rest,cells => if i < cells.length ∧ (r.get x).cells.length = sz ∧ C.kns (r.get x).cells = true then znY r sz rest (cells.set i (r.get x).cells) else none
def zCo (sz : Nat) : Ob:=if 4096 ≤ sz then .cells 0 (sz - 4096) [] else .tok sz [0]
def zDQ (t sz : Nat) : C:=if 4096 ≤ sz then .own t 0 0 0 else .ap t 0 []
def zfZ : Nat → List (Nat × Nat) → List C → List C
 | _,[],cs => cs
 | t,j :: js,cs => zfZ (t + 1) js (cs.set j.1 (zDQ t j.2))
def tokens : List (Nat × Nat) → List Ob
 | [] => []
 | j :: js => zCo j.2 :: tokens js
def R.allocs (r : R) (os : List Ob) : R:={ r with st:=r.st ++ os }
def aal (r : R) (d : D) (zero : List C) (fresh : List (Nat × Nat)) : R :=
 (r.allocs (tokens fresh ++ [.cells 0 zero.length [zfZ r.st.length fresh zero]])).put d (.one (.ptr (r.st.length + fresh.length) 0 0 0))
def zDT (r : R) (d : D) (fresh : List (Nat × Nat)) (cs : List C) : R:=(r.allocs (tokens fresh)).put d (.agg cs)
def zCT (r : R) (d : D) (xs : List (List Fz)) : R:=r.put d (vsl xs)
def zyh (r : R) (d : D) (sz : Nat) (xs : List (List Fz)) : R:=(r.alloc (.tok sz [xs.length])).put d (.one (.ap r.st.length 0 xs))
def zvz (r : R) (d : D) (sz : Nat) : B → List (List C) → Option R
 | .fz,es => (zaq es).map (zCT r d)
 | .tk,es => (zaq es).map (zyh r d sz)
 | .rw,es => some ((r.alloc (.cells 0 sz es)).put d (.one (.own r.st.length 0 0 es.length)))
def zEo : V → Option V
 | .one (.own _ _ _ n) => some (zB1 .i64 n)
 | .one (.f (.sl xs)) => some (zB1 .i64 xs.length)
 | .one (.ap _ _ xs) => some (zB1 .i64 xs.length)
 | _ => none
def zBS : V → Option V
 | .one (.f (.lit (.string s))) => some (zB1 .i64 s.size)
 | _ => none
def afa (off : Nat) : V → Option V
 | .one (.ptr id ver i o) => some (.one (.ptr id ver i (o + off)))
 | .one (.fp cs o) => some (.one (.fp cs (o + off)))
 | _ => none
def zER (sz : Nat) (e : List Fz) : Option V:=if e.length = sz then some (vfp e) else none
def zsF (id ver sz lo : Nat) (k : Int) (o : Ob) : Option V:=if o.isRow ver sz then some (.one (.ptr id ver (lo + k.toNat) 0)) else none
def aia (σ : zd) (sz : Nat) : V → V → Option V
 | .one (.own id ver lo n),.one (.f (.lit (.int _ k))) => if 0 ≤ k ∧ k < n then (σ[id]?).bind (zsF id ver sz lo k) else none
 | .one (.f (.sl xs)),.one (.f (.lit (.int _ k))) => if 0 ≤ k then (xs[k.toNat]?).bind (zER sz) else none
 | .one (.ap _ _ xs),.one (.f (.lit (.int _ k))) => if 0 ≤ k then (xs[k.toNat]?).bind (zER sz) else none
 | _,_ => none
def zEU (n sz : Nat) : V → V → Option V
 | .one (.ptr id ver j o),.one (.f (.lit (.int _ k))) => if 0 ≤ k ∧ k < n then some (.one (.ptr id ver j (o + k.toNat * sz))) else none
 | .one (.fp cs o),.one (.f (.lit (.int _ k))) => if 0 ≤ k ∧ k < n then some (.one (.fp cs (o + k.toNat * sz))) else none
 | _,_ => none
def cut {α : Type} (o n : Nat) (e : List α) : Option (List α):=if o + n ≤ e.length then some ((e.drop o).take n) else none
def ald (σ : zd) : Option Nat → V → Option V
 | none,.one (.ptr id ver i o) => (σ.cell id ver i o).map zEX
 | none,.one (.fp cs o) => (cs[o]?).map vf
 | some n,.one (.ptr id ver i o) => ((σ.elem id ver i).bind (cut o n)).map V.agg
 | some n,.one (.fp cs o) => (cut o n cs).map zAq
 | _,_ => none
def ast (r : R) (sz : Nat) (cs : List C) : V → Option R
 | .one (.ptr id ver i o) => if cs.length = sz then r.write id ver i o cs else none
 | _ => none
def zEZ (r : R) (sz : Nat) (v : V) : Option R:=ast (r.alloc (.tok sz [0])) 1 [.ap r.st.length 0 []] v
def nest (t : Nat) (zero : List C) (j : Nat) (k : Nat) : List C:=zero.set j (.ap t k [])
def zDV (r : R) (d : D) (zero : List C) : Option (Nat × Nat) → V → Option R
 | none,.one (.f (.lit (.int _ k))) => if 0 ≤ k ∧ k ≤ LIM then some ((r.alloc (.cells 0 zero.length (yf k.toNat zero))).put d (.one (.own r.st.length 0 0 k.toNat))) else none
 | some j,.one (.f (.lit (.int _ k))) => if 0 ≤ k ∧ k ≤ LIM then
  some ((r.allocs [.tok j.2 (yf k.toNat 0),.cells 0 zero.length ((yi k.toNat).map (nest r.st.length zero j.1))]).put d (.one (.own (r.st.length + 1) 0 0 k.toNat))) else none
 | _,_ => none
def zpS (t : Nat) (zero : List C) (j : Nat) (k : Nat) : List C:=zero.set j (.own (t + k) 0 0 0)
def zEe (r : R) (d : D) (zero : List C) (j sz : Nat) : V → Option R
 | .one (.f (.lit (.int _ k))) => if 0 ≤ k ∧ k ≤ LIM then
  some ((r.allocs (yf k.toNat (.cells 0 sz []) ++ [.cells 0 zero.length ((yi k.toNat).map (zpS r.st.length zero j))])).put d (.one (.own (r.st.length + k.toNat) 0 0 k.toNat))) else none
 | _ => none
def zED (r : R) (d : D) (sz : Nat) : V → Option R
 | .one (.f (.lit (.int _ k))) => if 0 ≤ k ∧ k ≤ LIM then some ((r.alloc (.tok sz [0])).put d (.one (.ap r.st.length 0 []))) else none
 | _ => none
def zBw : V → Option Nat
 | .one (.f (.lit (.int _ k))) => if 0 ≤ k then some k.toNat else none
 | _ => none
def bound (r : R) (dflt : Nat) : Option X → Option Nat
 | none => some dflt
 | some x => zBw (r.get x)
def zxW (sz : Nat) (xs : List (List Fz)) (lo hi : Nat) : Option V:=if lo ≤ hi ∧ hi ≤ xs.length ∧ znv sz xs = true then some (vsl ((xs.take hi).drop lo)) else none
def zyd (σ : zd) (sz id ver l n lo hi : Nat) : Option V:=if lo ≤ hi ∧ hi ≤ n ∧ (σ[id]?).any (Ob.isRow ver sz) = true then some (.one (.own id ver (l + lo) (hi - lo))) else none
def zCQ (s : ByteArray) (lo hi : Nat) : Option V:=if lo ≤ hi ∧ hi ≤ s.size then some (.one (.f (.lit (.string (s.extract lo hi))))) else none
def two (f : Nat → Nat → Option V) : Option Nat → Option Nat → Option V
 | some a,some b => f a b
 | _,_ => none
def ztX : V → V → Bool
 | .one (.f (.lit (.int k a))),.one (.f (.lit (.int k' b))) => decide (k = k') && decide (a = b)
 | _,_ => false
def zBo (r : R) (hi : Option X) : Option X → Bool
 | none => true
 | some m => match hi with
   | some h => ztX (r.get m) (r.get h)
   | none => false
def zEK (r : R) (sz : Nat) (lo hi : Option X) (mx : Bool) : V → Option V
 | .one (.f (.sl xs)) => two (zxW sz xs) (bound r 0 lo) (bound r xs.length hi)
 | .one (.ap _ _ xs) => two (zxW sz xs) (bound r 0 lo) (bound r xs.length hi)
 | .one (.own id ver l n) => if mx then none else two (zyd r.st sz id ver l n) (bound r 0 lo) (bound r n hi)
 | _ => none
def zuj (r : R) (lo hi : Option X) : V → Option V
 | .one (.f (.lit (.string s))) => two (zCQ s) (bound r 0 lo) (bound r s.size hi)
 | _ => none
def zFS : V → Bool
 | .one (.f (.sl _)) => true
 | .one (.ap _ _ _) => true
 | _ => false
def zE2 (i : Nat) : V → Option V
 | .tup vs => vs[i]?
 | _ => none
def zEl (off : Nat) : Option Nat → V → Option V
 | none,.agg cs => (cs[off]?).map zEX
 | some n,.agg cs => (cut off n cs).map V.agg
 | _,_ => none
def zE5 (n : Nat) : V → V → Option V
 | .agg cs,.one (.f (.lit (.int _ k))) => if 0 ≤ k ∧ k < n then (cs[k.toNat]?).map zEX else none
 | _,_ => none
def single (c : Fz) : List Fz:=[c]
def zE1 (n lo : Nat) : V → Option V
 | .one (.fp cs 0) => if cs.length = n ∧ lo ≤ n then some (vsl ((cs.drop lo).map single)) else none
 | _ => none
def byteOf : List Fz → Option Int
 | [.lit (.int .u8 n)] => some n
 | _ => none
def bytesOf : List (List Fz) → Option (List Int)
 | [] => some []
 | e :: es => zfE (byteOf e) (bytesOf es)
def strOf (ns : List Int) : ByteArray:=⟨(ns.map fun n => UInt8.ofNat n.toNat).toArray⟩
def zFR (ns : List Int) : V:=.one (.f (.lit (.string (strOf ns))))
def zE6 (xs : List (List Fz)) : Option V:=(bytesOf xs).map zFR
def zBH (neg : Bool) : V → V → Option V
 | .one (.f (.lit (.string a))),.one (.f (.lit (.string b))) => some (ziV (if neg then !(a.toList == b.toList) else a.toList == b.toList))
 | _,_ => none
def zuP (r : R) (d : D) (sz id ver n : Nat) (rows : List (List Fz)) : R:=(r.setOb id (.cells (ver + 1) sz [])).put d (vsl (rows.take n))
def zvC (r : R) (d : D) (sz id ver n : Nat) : Ob → Option R
 | .cells ver' sz' es => if ver' = ver ∧ sz' = sz then (zaq es).map (zuP r d sz id ver n) else none
 | _ => none
def zEh (r : R) (d : D) (sz : Nat) : V → Option R
 | .one (.own id ver 0 n) => (r.st[id]?).bind (zvC r d sz id ver n)
 | _ => none
def zFe (r : R) (d : D) (fs : List Fz) : R:=r.put d (.one (.fp fs 0))
def zEY : V → Option V
 | .one (.ptr id ver i o) => some (.one (.ptr id ver i o))
 | .one (.fp cs o) => some (.one (.fp cs o))
 | .one (.fn f a b) => some (.one (.fn f a b))
 | _ => none
def zBz (a b : V) : V → Option V
 | .one (.f (.lit (.bool t))) => some (if t then a else b)
 | _ => none
def zCc (k : IntKind) : V → Option V
 | .one (.f (.lit (.int _ n))) => some (zB1 k (k.wrap n))
 | _ => none
def zET (isMax : Bool) : V → V → Option V
 | .one (.f (.lit (.int k a))),.one (.f (.lit (.int k' b))) => if k = k' then some (zB1 k (if isMax then max a b else min a b)) else none
 | _,_ => none
def zif (k : Int) : List (Int × V) → Option V
 | [] => none
 | e :: es => if e.1 = k then some e.2 else zif k es
def zmg (k : Int) (v : V) : List (Int × V) → List (Int × V)
 | [] => [(k,v)]
 | e :: es => if e.1 = k then (k,v) :: es else e :: zmg k v es
def Ob.entries : Ob → Option (List (Int × V))
 | .mp es => some es
 | _ => none
def zC1 (zero : V) (ok : Bool) : Option V → V
 | some v => if ok then .tup [v,ziV true] else v
 | none => if ok then .tup [zero,ziV false] else zero
def alk (σ : zd) (zero : V) (ok : Bool) : V → V → Option V
 | .one (.map id),.one (.f (.lit (.int .i64 k))) => ((σ[id]?).bind Ob.entries).map fun es => zC1 zero ok (zif k es)
 | .one (.f (.lit (.map none))),.one (.f (.lit (.int .i64 _))) => some (zC1 zero ok none)
 | _,_ => none
def zEO (r : R) (id : Nat) (k : Int) (v : V) (es : List (Int × V)) : R:=r.setOb id (.mp (zmg k v es))
def amu (r : R) (v : V) : V → V → Option R
 | .one (.map id),.one (.f (.lit (.int .i64 k))) => ((r.st[id]?).bind Ob.entries).map (zEO r id k v)
 | _,_ => none
mutual
def C.shift (n : Nat) : C → C
 | .f x => .f x
 | .ap t k xs => .ap (t + n) k xs
 | .ptr id ver i o => .ptr (id + n) ver i o
 | .fp cs o => .fp cs o
 | .own id ver lo m => .own (id + n) ver lo m
 | .map id => .map (id + n)
 | .fn g a b => .fn g (C.shifts n a) (C.shifts n b)
 | .un => .un
def C.shifts (n : Nat) : List C → List C
 | [] => []
 | c :: cs => c.shift n :: C.shifts n cs
end
mutual
def V.shift (n : Nat) : V → V
 | .one c => .one (c.shift n)
 | .agg cs => .agg (C.shifts n cs)
 | .tup vs => .tup (V.shifts n vs)
def V.shifts (n : Nat) : List V → List V
 | [] => []
 | v :: vs => v.shift n :: V.shifts n vs
end
def Ob.shift (n : Nat) : Ob → Ob
 | .cells ver sz es => .cells ver sz (es.map (C.shifts n))
 | .tok sz fr => .tok sz fr
 | .mp es => .mp (es.map fun e => (e.1,e.2.shift n))
def zt2 : V → Bool
 | .one (.own _ _ _ _) => true
 | _ => false
mutual
def V.plain : V → Bool
 | .one (.f (.lit _)) => true
 | .one _ => false
 | .agg cs => cs.all fun c => match c with
   | .f (.lit _) => true
   | _ => false
 | .tup vs => V.plains vs
def V.plains : List V → Bool
 | [] => true
 | v :: vs => v.plain && V.plains vs
end
def zu6 (r : R) (d : D) (lent : Bool) (x : V × zd) : Option R:=if x.2.length = 0 ∧ (lent = false ∨ x.1.plain = true) then some (r.put d x.1) else none
def zvd (r : R) (d : D) (x : V × zd) : R:={ r with st:=r.st ++ x.2.map (Ob.shift r.st.length) }.put d (x.1.shift r.st.length)
def zvF (r : R) (d : D) (x : V × zd) : R:={ r with st:=x.2 }.put d x.1
def closed (c : zad) (g : Nat) (aS : List V) : Option (V × zd):=c g aS []
def znW (call : zad) (r : R) (d : D) (m : Mode) (args : List V) : V → Option R
 | .one (.fn g first caps) =>
   match m with
   | .cl => ((zpK r.st (first.map V.one ++ (args ++ caps.map V.one))).bind (closed call g)).bind (zu6 r d ((first.map V.one ++ (args ++ caps.map V.one)).any zt2))
   | .ck => if (first.map V.one ++ (args ++ caps.map V.one)).any zt2 then none else ((zpK r.st (first.map V.one ++ (args ++ caps.map V.one))).bind (closed call g)).map (zvd r d)
   | .op => (call g (first.map V.one ++ (args ++ caps.map V.one)) r.st).map (zvF r d)
 | _ => none
def R.gets (r : R) : List X → List V
 | [] => []
 | x :: xs => r.get x :: r.gets xs
def anl (r : R) (d : D) (sz : Nat) : B → Option R
 | .tk => some ((r.alloc (.tok sz [0])).put d (.one (.ap r.st.length 0 [])))
 | .rw => some ((r.alloc (.cells 0 sz [])).put d (.one (.own r.st.length 0 0 0)))
 | .fz => some (r.put d (vsl []))
def za7 (call : zad) (r : R) (d : D) : Op → Option R
 | .mv x => some (r.put d (r.get x))
 | .pick c a b => (zBz (r.get a) (r.get b) (r.get c)).map (r.put d)
 | .bin op x y => (zE8 op (r.get x) (r.get y)).map (r.put d)
 | .beq neg x y => (zE4 neg (r.get x) (r.get y)).map (r.put d)
 | .pnil neg x => (zBc neg (r.get x)).map (r.put d)
 | .eqa n neg x y => (zE3 n neg (r.get x) (r.get y)).map (r.put d)
 | .un op x => (aun op (r.get x)).map (r.put d)
 | .conv k x => (zCc k (r.get x)).map (r.put d)
 | .len x => (zEo (r.get x)).map (r.put d)
 | .lens x => (zBS (r.get x)).map (r.put d)
 | .fa off x => (afa off (r.get x)).map (r.put d)
 | .ia sz x i => (aia r.st sz (r.get x) (r.get i)).map (r.put d)
 | .iaa n sz x i => (zEU n sz (r.get x) (r.get i)).map (r.put d)
 | .ld sz x => (ald r.st sz (r.get x)).map (r.put d)
 | .st sz x v => (ast r sz (r.get v).cells (r.get x)).map fun r => r.put d vun
 | .al zero fresh => some (aal r d zero fresh)
 | .box sz x => if (r.get x).cells.length = sz ∧ C.kns (r.get x).cells = true then some ((r.alloc (.cells 0 sz [(r.get x).cells])).put d (.one (.ptr r.st.length 0 0 0))) else none
 | .bld zero parts fresh => (zng r parts (zfZ r.st.length fresh zero)).map (zDT r d fresh)
 | .bsl b sz zero parts => (znY r sz parts zero).bind (zvz r d sz b)
 | .nl b sz => anl r d sz b
 | .app sz s x => (elems r.st (r.get x)).bind fun ys => if znv sz ys then zCH r d sz ys (r.get s) else none
 | .cpy sz x y => (elems r.st (r.get y)).bind fun ys => if znv sz ys then zEd r d sz ys (r.get x) else none
 | .mks zero fresh n => zDV r d zero fresh (r.get n)
 | .mkc sz n => zED r d sz (r.get n)
 | .mkr zero j sz n => zEe r d zero j sz (r.get n)
 | .slc sz x lo hi mx => if zBo r hi mx = true then (zEK r sz lo hi mx.isSome (r.get x)).map (r.put d) else none
 | .slcs x lo hi => (zuj r lo hi (r.get x)).map (r.put d)
 | .nlc b sz x => if zFS (r.get x) then anl r d sz b else none
 | .ext x i => (zE2 i (r.get x)).map (r.put d)
 | .fld off sz x => (zEl off sz (r.get x)).map (r.put d)
 | .idx n x i => (zE5 n (r.get x) (r.get i)).map (r.put d)
 | .bxf sz x => if (r.get x).cells.length = sz then (zdl (r.get x).cells).map (zFe r d) else none
 | .frz sz x => zEh r d sz (r.get x)
 | .stn sz x => (zEZ r sz (r.get x)).map fun r => r.put d vun
 | .sla n lo x => (zE1 n lo (r.get x)).map (r.put d)
 | .str x => ((elems r.st (r.get x)).bind zE6).map (r.put d)
 | .steq neg x y => (zBH neg (r.get x) (r.get y)).map (r.put d)
 | .nil x => (zEY (r.get x)).map (r.put d)
 | .mkf f first caps => some (r.put d (.one (.fn f ((r.gets first).map V.c1) ((r.gets caps).map V.c1))))
 | .mkm => some ((r.alloc (.mp [])).put d (.one (.map r.st.length)))
 | .lk zero ok m k => (alk r.st zero ok (r.get m) (r.get k)).map (r.put d)
 | .mu m k v => (amu r (r.get v) (r.get m) (r.get k)).map fun r => r.put d vun
 | .mxn isMax x y => (zET isMax (r.get x) (r.get y)).map (r.put d)
 | .call m f args => znW call r d m (r.gets args) (r.get f)
 | .no _ => none
def znx (call : zad) (r : R) (d : D) (op : Op) (b : Bool) : V → Option R
 | .one (.f (.lit (.bool t))) => if t = b then za7 call r d op else some (r.put d (.tup []))
 | .tup [] => some (r.put d (.tup []))
 | _ => none
def step (call : zad) (r : R) : Oper → Option R
 | ⟨d,op,none⟩ => za7 call r d op
 | ⟨d,op,some (x,b)⟩ => znx call r d op b (r.get x)
def steps (call : zad) : List Oper → R → Option R
 | [],r => some r
 | o :: os,r => (step call r o).bind (steps call os)
def Value.beq : Value → Value → Bool
 | .int k a,.int k' b => decide (k = k') && decide (a = b)
 | .bool a,.bool b => a == b
 | .string a,.string b => decide (a.data.toList = b.data.toList)
 | _,_ => false
mutual
def Fz.beq : Fz → Fz → Bool
 | .lit v,.lit u => Value.beq v u
 | .sl xs,.sl ys => Fz.beqs xs ys
 | _,_ => false
def Fz.beqR : List Fz → List Fz → Bool
 | [],[] => true
 | x :: xs,y :: ys => x.beq y && Fz.beqR xs ys
 | _,_ => false
def Fz.beqs : List (List Fz) → List (List Fz) → Bool
 | [],[] => true
 | x :: xs,y :: ys => Fz.beqR x y && Fz.beqs xs ys
 | _,_ => false
end
def C.beq : C → C → Bool
 | .f x,.f y => x.beq y
 | .ap t k xs,.ap t' k' ys => decide (t = t') && decide (k = k') && Fz.beqs xs ys
 | .ptr a b c d,.ptr a' b' c' d' => decide (a = a') && decide (b = b') && decide (c = c') && decide (d = d')
 | .fp xs o,.fp ys o' => Fz.beqR xs ys && decide (o = o')
 | .own a b c d,.own a' b' c' d' => decide (a = a') && decide (b = b') && decide (c = c') && decide (d = d')
 | .map a,.map b => decide (a = b)
 | _,_ => false
def C.beqs : List C → List C → Bool
 | [],[] => true
 | x :: xs,y :: ys => x.beq y && C.beqs xs ys
 | _,_ => false
def V.beq : V → V → Bool
 | .one c,.one d => c.beq d
 | .agg cs,.agg ds => C.beqs cs ds
 | _,_ => false
def zvT : zad:=fun _ _ _ => none
def zui : Option R → Option R → Bool
 | some a,some b => (a.rs.headD vun).beq (b.rs.headD vun)
 | _,_ => false
def zc5 (c : zad) (ops : List Oper) (r : R) (p : Nat × Nat) : Bool:=match steps c (ops.take p.1) r,steps c (ops.take p.2) r,ops[p.1]? with
 | some rj,some rk,some x => zui (step zvT { rj with st:=rk.st } x) (step zvT rj x)
 | _,_,_ => false
def zwM (c : zad) (ps : List (Nat × Nat)) (ops : List Oper) (r : R) : Option R:=(steps c ops r).bind fun r1 => if ps.all (zc5 c ops r) then some r1 else none
structure St where
 env : List V
 st : zd
 base : Nat
 lim : Nat
def clr : List Bool → List V → List V
 | [],_ => []
 | true :: bs,v :: vs => v :: clr bs vs
 | false :: bs,_ :: vs => vun :: clr bs vs
 | _,[] => []
def zme (n : Nat) (env : List V) (σ : zd) : Option zd :=
 if σ.length ≤ n then some σ else if V.lts n env && Obs.lt n (σ.take n) then some (σ.take n) else none
def St.mkSt (s : St) (env : List V) (σ : zd) : St:={ s with env:=env,st:=σ }
def St.clear (s : St) (live : List Bool) (objs : Nat) : Option St :=
 (zme (s.base + objs) (clr live s.env) s.st).map (s.mkSt (clr live s.env))
def zDU (e : Ex) (s : St) : Ex × St:=(e,s)
def findLabel : Code → Nat → Option Code
 | .seq a b,l => match findLabel a l with
   | some rest => some (.seq rest b)
   | none => findLabel b l
 | .label l',l => if l' = l then some .skip else none
 | _,_ => none
def enter (fn : Fun) (args : List V) (σ : zd) : St:=⟨args ++ yf (fn.nslots - args.length) vun,σ,σ.length,σ.length + fn.keep⟩
def zBJ (lim : Nat) (σ : zd) : C → Option Fz
 | .own id ver lo n => if lim ≤ id then ((σ[id]?).bind (Ob.frz ver lo n)).map Fz.sl else none
 | c => zux c
def zim (lim : Nat) (σ : zd) : List C → Option (List Fz)
 | [] => some []
 | c :: cs => zfE (zBJ lim σ c) (zim lim σ cs)
def zCw (lim : Nat) (σ : zd) : V → Option V
 | .one (.own id ver lo n) => if lim ≤ id then ((σ[id]?).bind (Ob.frz ver lo n)).map vsl else none
 | .one (.ap _ _ xs) => some (vsl xs)
 | .agg cs => (zim lim σ cs).map zAq
 | v => some v
def ztp (σ : zd) (env : List V) : Nat × Option (Option Nat) → Option V
 | (t,none) => some (env.getD t vun)
 | (t,some sz) => ald σ sz (env.getD t vun)
def zx6 (raw : Bool) (lim : Nat) (σ : zd) (v : V) : Option V:=if raw then some v else zCw lim σ v
def outs (raw : Bool) (lim : Nat) (σ : zd) (env : List V) : List (Nat × Option (Option Nat)) → Option (List V)
 | [] => some []
 | t :: ts => zfE ((ztp σ env t).bind (zx6 raw lim σ)) (outs raw lim σ env ts)
def zCn : List V → V
 | [v] => v
 | vs => .tup vs
def zlX (lim : Nat) (σ : zd) (vs : List V) : Option (V × zd):=(zme lim vs σ).map fun σ' => (zCn vs,σ')
def leave (raw : Bool) (res : List (Nat × Option (Option Nat))) : Ex × St → Option (V × zd)
 | (.normal,s) => (outs raw s.lim s.st s.env res).bind (zlX s.lim s.st)
 | (.ret,s) => (outs raw s.lim s.st s.env res).bind (zlX s.lim s.st)
 | _ => none
inductive Entry where
 | fn (f : Fun)
 | ext (f : List V → zd → Option (V × zd))
def zfy (T : Nat → Option Entry) (E : Code → St → Option (Ex × St)) : zad:=fun f args σ =>
 match T f with
 | some (.fn fn) => if args.length = fn.np then (E fn.body (enter fn args σ)).bind (leave fn.raw fn.results) else none
 | some (.ext g) => g args σ
 | none => none
def zso (E : St → Option (Ex × St)) : Ex × St → Option (Ex × St)
 | (.normal,s) => E s
 | (.exit i,s) => some (.exit i,s)
 | (.goto i,s) => some (.goto i,s)
 | (.ret,s) => some (.ret,s)
def zrT (A B : St → Option (Ex × St)) (s : St) : V → Option (Ex × St)
 | .one (.f (.lit (.bool t))) => if t then A s else B s
 | _ => none
def zs9 (id : Nat) : Ex × St → Ex × St
 | (.exit id',s) => if id' = id then (.normal,s) else (.exit id',s)
 | r => r
def zpT (E : St → Option (Ex × St)) (live : List Bool) (objs : Nat) : Ex × St → Option (Ex × St)
 | (.normal,s) => (s.clear live objs).bind E
 | (.exit i,s) => some (.exit i,s)
 | (.goto i,s) => some (.goto i,s)
 | (.ret,s) => some (.ret,s)
def scK (E : Code → St → Option (Ex × St)) (body : Code) : Ex × St → Option (Ex × St)
 | (.goto l,s) => match findLabel body l with
   | some rest => E (.sc body rest) s
   | none => some (.goto l,s)
 | r => some r
def zz4 (base lim : Nat) (r : R) : Ex × St:=(.normal,⟨r.env,r.st,base,lim⟩)
def zu8 (off : Nat) (sz : Option Nat) (row : Nat) : List (Int × V) → List (Int × V) → Option (List (Int × V))
 | [],ds => some ds
 | e :: es,ds => if e.2.cells.length = row ∧ C.kns e.2.cells = true then (zEl off sz e.2).bind fun v => zu8 off sz row es (zmg e.1 v ds) else none
def zCz (sp : Spec) (s : St) (σ : zd) : V → V → Option St
 | .one (.map id),.one (.map id') => if id = id' then none else
  ((σ[id]?).bind Ob.entries).bind fun es => ((σ[id']?).bind Ob.entries).bind fun ds => (zu8 sp.off sp.sz sp.row es ds).map fun ds' => s.mkSt s.env (σ.set id' (.mp ds'))
 | _,_ => none
def zBR (sp : Spec) (s : St) : Option St:=(steps zvT sp.pre ⟨[],s.env,s.st,s.base,s.lim⟩).bind fun r => zCz sp (s.mkSt r.env r.st) r.st (r.get sp.m) (r.env.getD sp.dst vun)
def zN (T : Nat → Option Entry) : Nat → Code → St → Option (Ex × St)
 | 0,_,_ => none
 | n + 1,c,s =>
   match c with
   | .skip => some (.normal,s)
   | .reg ops => (steps (zfy T (zN T n)) ops ⟨[],s.env,s.st,s.base,s.lim⟩).map (zz4 s.base s.lim)
   | .regd ps ops => (zwM (zfy T (zN T n)) ps ops ⟨[],s.env,s.st,s.base,s.lim⟩).map (zz4 s.base s.lim)
   | .spec sp => (zBR sp s).map (zDU .normal)
   | .seq a b => (zN T n a s).bind (zso (zN T n b))
   | .cond x a b => zrT (zN T n a) (zN T n b) s ((R.mk [] s.env s.st s.base s.lim).get x)
   | .block id body => (zN T n body s).map (zs9 id)
   | .loop live objs body => (zN T n body s).bind (zpT (zN T n (.loop live objs body)) live objs)
   | .exit id live objs => (s.clear live objs).map (zDU (.exit id))
   | .scope body => zN T n (.sc body body) s
   | .sc body cur => (zN T n cur s).bind (scK (zN T n) body)
   | .label _ => some (.normal,s)
   | .goto l live objs => (s.clear live objs).map (zDU (.goto l))
   | .ret live => some (.ret,s.mkSt (clr live s.env) s.st)
def Le {α : Type} (a b : Option α) : Prop:=∀ r,a = some r → b = some r
theorem Le.refl {α : Type} (a : Option α) : Le a a:=fun _ h => h
theorem Le.bind {α β : Type} {a b : Option α} {K K' : α → Option β} (h : Le a b) (hk : ∀ x,Le (K x) (K' x)) : Le (a.bind K) (b.bind K'):=by
 intro r hr
 rw [ya] at hr ⊢
 obtain ⟨x,hx,h2⟩:=hr
 exact ⟨x,h x hx,hk x r h2⟩
theorem Le.map {α β : Type} {a b : Option α} (h : Le a b) (f : α → β) : Le (a.map f) (b.map f):=by
 intro r hr
 rw [yb] at hr ⊢
 obtain ⟨x,hx,h2⟩:=hr
 exact ⟨x,h x hx,h2⟩
def LeC (c c' : zad) : Prop:=∀ f a σ,Le (c f a σ) (c' f a σ)
theorem zwn {c c' : zad} (h : LeC c c') (r : R) (d : D) (m : Mode) (aS : List V) (v : V) : Le (znW c r d m aS v) (znW c' r d m aS v):=by
 unfold znW
 split
 ·cases m
  ·exact ((Le.refl _).bind fun aS => h _ _ _).bind fun _ => Le.refl _
  ·dsimp only
   split
   ·exact Le.refl _
   ·exact ((Le.refl _).bind fun aS => h _ _ _).map _
  ·exact (h _ _ _).map _
 ·exact Le.refl _
theorem zpy {c c' : zad} (h : LeC c c') (r : R) (d : D) (o : Op) : Le (za7 c r d o) (za7 c' r d o):=by
 cases o
 case call m f args => exact zwn h r d m _ _
 all_goals exact Le.refl _
theorem zl5 {c c' : zad} (h : LeC c c') (r : R) (o : Oper) : Le (step c r o) (step c' r o):=by
 obtain ⟨d,op,g⟩:=o
 cases g with
 | none => exact zpy h r d op
 | some g =>
   obtain ⟨x,b⟩:=g
   simp only [step]
   generalize r.get x = v
   unfold znx
   split
   ·split
    ·exact zpy h r d op
    ·exact Le.refl _
   ·exact Le.refl _
   ·exact Le.refl _
theorem zdq {c c' : zad} (h : LeC c c') : ∀ (os : List Oper) (r : R),Le (steps c os r) (steps c' os r)
 | [],_ => Le.refl _
 | o :: os,r => (zl5 h r o).bind fun x => zdq h os x
theorem zio {c c' : zad} (h : LeC c c') (ops : List Oper) (r : R) (p : Nat × Nat) (hp : zc5 c ops r p = true) : zc5 c' ops r p = true:=by
 unfold zc5 at hp ⊢
 split at hp
 ·rename_i rj rk x h1 h2 h3
  rw [zdq h _ _ _ h1,zdq h _ _ _ h2,h3]
  exact hp
 ·cases hp
theorem ztR {c c' : zad} (h : LeC c c') (ps : List (Nat × Nat)) (ops : List Oper) (r : R) : Le (zwM c ps ops r) (zwM c' ps ops r):=by
 intro r1 h1
 unfold zwM at h1 ⊢
 rw [ya] at h1 ⊢
 obtain ⟨r2,h2,h3⟩:=h1
 refine ⟨r2,zdq h _ _ _ h2,?_⟩
 split at h3
 ·rename_i ha
  rw [if_pos (yc.2 fun p hp => zio h _ _ _ (yc.1 ha p hp))]
  exact h3
 ·cases h3
theorem zj9 {T : Nat → Option Entry} {E E' : Code → St → Option (Ex × St)} (h : ∀ c s,Le (E c s) (E' c s)) : LeC (zfy T E) (zfy T E'):=by
 intro f a σ
 unfold zfy
 split
 ·split
  ·exact (h _ _).bind fun _ => Le.refl _
  ·exact Le.refl _
 ·exact Le.refl _
 ·exact Le.refl _
theorem zs6 {E E' : St → Option (Ex × St)} (h : ∀ s,Le (E s) (E' s)) (x : Ex × St) : Le (zso E x) (zso E' x):=by
 obtain ⟨e,s⟩:=x
 cases e <;> first | exact h s | exact Le.refl _
theorem zqD {E E' : St → Option (Ex × St)} (h : ∀ s,Le (E s) (E' s)) (lv : List Bool) (ob : Nat) (x : Ex × St) : Le (zpT E lv ob x) (zpT E' lv ob x):=by
 obtain ⟨e,s⟩:=x
 cases e <;> first | exact (Le.refl _).bind h | exact Le.refl _
theorem zws {A A' B B' : St → Option (Ex × St)} (h : ∀ s,Le (A s) (A' s)) (h' : ∀ s,Le (B s) (B' s)) (s : St) (v : V) : Le (zrT A B s v) (zrT A' B' s v):=by
 unfold zrT
 split
 ·split
  ·exact h s
  ·exact h' s
 ·exact Le.refl _
theorem zvg {E E' : Code → St → Option (Ex × St)} (h : ∀ c s,Le (E c s) (E' c s)) (body : Code) (x : Ex × St) : Le (scK E body x) (scK E' body x):=by
 obtain ⟨e,s⟩:=x
 cases e <;> simp only [scK]
 case goto l =>
  split
  ·exact h _ _
  ·exact Le.refl _
 all_goals exact Le.refl _
theorem zqF (T : Nat → Option Entry) : ∀ (n : Nat) (c : Code) (s : St),Le (zN T n c s) (zN T (n + 1) c s)
 | 0,_,_ => fun r h => by simp [zN] at h
 | n + 1,c,s => by
   have ih:=zqF T n
   cases c <;> simp only [zN]
   case reg ops => exact (zdq (zj9 ih) ops _).map _
   case regd ps ops => exact (ztR (zj9 ih) ps ops _).map _
   case seq a b => exact (ih a s).bind (zs6 (ih b))
   case cond x a b => exact zws (ih a) (ih b) s _
   case block id body => exact (ih body s).map _
   case loop lv ob body => exact (ih body s).bind (zqD (ih _) lv ob)
   case scope body => exact ih _ _
   case sc body cur => exact (ih cur s).bind (zvg ih body)
   all_goals exact Le.refl _
theorem zii (T : Nat → Option Entry) {n m : Nat} (hnm : n ≤ m) (c : Code) (s : St) : Le (zN T n c s) (zN T m c s):=by
 induction hnm with
 | refl => exact Le.refl _
 | step _ ih => exact fun r h => zqF T _ _ _ r (ih r h)
open Classical in
noncomputable def exec (T : Nat → Option Entry) (c : Code) (s : St) : Option (Ex × St) :=
 if h : ∃ r n,zN T n c s = some r then some h.choose else none
theorem zcM {T : Nat → Option Entry} {c : Code} {s : St} {r : Ex × St} : exec T c s = some r ↔ ∃ n,zN T n c s = some r:=by
 unfold exec
 constructor
 ·intro h
  split at h
  ·rename_i hx
   injection h with h
   subst h
   exact hx.choose_spec
  ·cases h
 ·rintro ⟨n,hn⟩
  have hx : ∃ r n,zN T n c s = some r:=⟨r,n,hn⟩
  rw [dif_pos hx]
  obtain ⟨m,hm⟩:=hx.choose_spec
  have h1:=zii T (yd n m) _ _ _ hn
  have h2:=zii T (ye n m) _ _ _ hm
  rw [h1] at h2
  exact h2.symm
noncomputable def call (T : Nat → Option Entry) : zad:=zfy T (exec T)
theorem zB8 {α : Type} {a b : Option α} (h : ∀ r,a = some r ↔ b = some r) : a = b:=by
 cases a with
 | none => cases b with
   | none => rfl
   | some y => exact ((h y).2 rfl)
 | some x => exact ((h x).1 rfl).symm
theorem zsm {T : Nat → Option Entry} {f : Nat} {a : List V} {σ : zd} {r : V × zd} (h : call T f a σ = some r) : ∃ n,zfy T (zN T n) f a σ = some r:=by
 unfold call zfy at h
 unfold zfy
 split at h
 ·split at h
  ·rename_i hnp
   simp only [if_pos hnp,ya] at h ⊢
   obtain ⟨x,hx,e⟩:=h
   obtain ⟨n,hn⟩:=zcM.1 hx
   exact ⟨n,x,hn,e⟩
  ·cases h
 ·exact ⟨0,h⟩
 ·cases h
theorem ziZ (T : Nat → Option Entry) {n m : Nat} (h : n ≤ m) : LeC (zfy T (zN T n)) (zfy T (zN T m)):=zj9 fun c s => zii T h c s
theorem zkh (T : Nat → Option Entry) (n : Nat) : LeC (zfy T (zN T n)) (call T):=zj9 fun _ _ _ hr => zcM.2 ⟨n,hr⟩
theorem zyz {T : Nat → Option Entry} {r : R} {d : D} {m : Mode} {aS : List V} {v : V} {x : R} (hs : znW (call T) r d m aS v = some x) : ∃ n,znW (zfy T (zN T n)) r d m aS v = some x:=by
 unfold znW at hs ⊢
 split at hs
 ·cases m
  ·simp only [ya] at hs ⊢
   obtain ⟨y,⟨aS,ha,hv⟩,e⟩:=hs
   obtain ⟨n,hn⟩:=zsm hv
   exact ⟨n,y,⟨aS,ha,hn⟩,e⟩
  ·dsimp only at hs ⊢
   split at hs
   ·cases hs
   ·rename_i hown
    simp only [if_neg hown,yb,ya] at hs ⊢
    obtain ⟨y,⟨aS,ha,hv⟩,e⟩:=hs
    obtain ⟨n,hn⟩:=zsm hv
    exact ⟨n,y,⟨aS,ha,hn⟩,e⟩
  ·simp only [yb] at hs ⊢
   obtain ⟨y,hv,e⟩:=hs
   obtain ⟨n,hn⟩:=zsm hv
   exact ⟨n,y,hn,e⟩
 ·cases hs
theorem zq0 {T : Nat → Option Entry} {r : R} {d : D} {o : Op} {x : R} (hs : za7 (call T) r d o = some x) : ∃ n,za7 (zfy T (zN T n)) r d o = some x:=by
 cases o
 case call m f args => exact zyz hs
 all_goals exact ⟨0,hs⟩
theorem zBl {T : Nat → Option Entry} {r : R} {o : Oper} {x : R} (hs : step (call T) r o = some x) : ∃ n,step (zfy T (zN T n)) r o = some x:=by
 obtain ⟨d,op,g⟩:=o
 cases g with
 | none => exact zq0 hs
 | some g =>
   obtain ⟨y,b⟩:=g
   simp only [step] at hs ⊢
   generalize r.get y = v at hs ⊢
   unfold znx at hs ⊢
   split at hs
   ·split at hs
    ·rename_i h
     obtain ⟨n,hn⟩:=zq0 hs
     exact ⟨n,by rw [if_pos h]; exact hn⟩
    ·rename_i h
     exact ⟨0,by rw [if_neg h]; exact hs⟩
   ·exact ⟨0,hs⟩
   ·cases hs
theorem zjW {T : Nat → Option Entry} : ∀ (os : List Oper) {r x : R},steps (call T) os r = some x → ∃ n,steps (zfy T (zN T n)) os r = some x
 | [],_,_,hs => ⟨0,hs⟩
 | o :: os,r,x,hs => by
   simp only [steps,ya] at hs ⊢
   obtain ⟨r1,h1,h2⟩:=hs
   obtain ⟨n,hn⟩:=zBl h1
   obtain ⟨m,hm⟩:=zjW os h2
   exact ⟨max n m,r1,zl5 (ziZ T (yd n m)) _ _ _ hn,zdq (ziZ T (ye n m)) os _ _ hm⟩
theorem zAD {T : Nat → Option Entry} (ps : List (Nat × Nat)) (os : List Oper) {r x : R} (hs : zwM (call T) ps os r = some x) : ∃ n,zwM (zfy T (zN T n)) ps os r = some x:=by
 unfold zwM at hs
 rw [ya] at hs
 obtain ⟨r2,h2,h3⟩:=hs
 split at h3
 ·rename_i ha
  injection h3 with h3
  subst h3
  obtain ⟨n,hn⟩:=zjW os h2
  have hall : ∀ ps : List (Nat × Nat),ps.all (zc5 (call T) os r) = true → ∃ m,ps.all (zc5 (zfy T (zN T m)) os r) = true:=by
   intro ps
   induction ps with
   | nil => exact fun _ => ⟨0,rfl⟩
   | cons p ps ih =>
     intro ha
     simp only [yh,yg] at ha
     obtain ⟨m,hm⟩:=ih ha.2
     have h1:=ha.1
     unfold zc5 at h1
     split at h1
     ·rename_i rj rk x q1 q2 q3
      obtain ⟨a,ha'⟩:=zjW _ q1
      obtain ⟨b,hb'⟩:=zjW _ q2
      refine ⟨max m (max a b),?_⟩
      simp only [yh,yg]
      refine ⟨?_,yc.2 fun p hp => zio (ziZ T (yd m _)) _ _ _ (yc.1 hm p hp)⟩
      unfold zc5
      rw [zdq (ziZ T (by omega : a ≤ max m (max a b))) _ _ _ ha',zdq (ziZ T (by omega : b ≤ max m (max a b))) _ _ _ hb',q3]
      exact h1
     ·cases h1
  obtain ⟨m,hm⟩:=hall ps ha
  refine ⟨max n m,?_⟩
  unfold zwM
  rw [zdq (ziZ T (yd n m)) _ _ _ hn]
  simp only [Option.bind_some]
  rw [if_pos (yc.2 fun p hp => zio (ziZ T (ye n m)) _ _ _ (yc.1 hm p hp))]
 ·cases h3
section eqs
variable (T : Nat → Option Entry) (s : St)
theorem zfN {c : Code} {F : Nat → Option (Ex × St)} {L : Option (Ex × St)} (h0 : ∀ n,zN T (n + 1) c s = F n) (hL : ∀ r,L = some r ↔ ∃ n,F n = some r) : exec T c s = L:=by
 refine zB8 fun r => ?_
 rw [zcM,hL]
 constructor
 ·rintro ⟨n,hn⟩
  cases n with
  | zero => simp [zN] at hn
  | succ n => exact ⟨n,by rw [← h0]; exact hn⟩
 ·rintro ⟨n,hn⟩
  exact ⟨n + 1,by rw [h0]; exact hn⟩
theorem zrr {β : Type} {c : Code} {G : Nat → Ex × St → Option β} {K : Ex × St → Option β} (hG : ∀ x n m,n ≤ m → Le (G n x) (G m x)) (hK : ∀ x r,K x = some r ↔ ∃ n,G n x = some r) (r : β) :
  (exec T c s).bind K = some r ↔ ∃ n,(zN T n c s).bind (G n) = some r:=by
 simp only [ya]
 constructor
 ·rintro ⟨x,hx,hk⟩
  obtain ⟨n,hn⟩:=zcM.1 hx
  obtain ⟨m,hm⟩:=(hK _ _).1 hk
  exact ⟨max n m,x,zii T (yd n m) _ _ _ hn,hG _ _ _ (ye n m) _ hm⟩
 ·rintro ⟨n,x,hx,hg⟩
  exact ⟨x,zcM.2 ⟨n,hx⟩,(hK _ _).2 ⟨n,hg⟩⟩
theorem zeS {α : Type} {L : Option α} (r : α) : L = some r ↔ ∃ _n : Nat,L = some r:=⟨fun h => ⟨0,h⟩,fun ⟨_,h⟩ => h⟩
theorem zg9 : exec T .skip s = some (.normal,s):=zfN T s (fun _ => by rw [zN]) zeS
theorem zqV (l : Nat) : exec T (.label l) s = some (.normal,s):=zfN T s (fun _ => by rw [zN]) zeS
theorem zyV (l : Nat) (lv : List Bool) (ob : Nat) : exec T (.goto l lv ob) s = (s.clear lv ob).map (zDU (.goto l)):=zfN T s (fun _ => by rw [zN]) zeS
theorem zAh (l : Nat) (lv : List Bool) (ob : Nat) : exec T (.exit l lv ob) s = (s.clear lv ob).map (zDU (.exit l)):=zfN T s (fun _ => by rw [zN]) zeS
theorem zBa (lv : List Bool) : exec T (.ret lv) s = some (.ret,s.mkSt (clr lv s.env) s.st):=zfN T s (fun _ => by rw [zN]) zeS
theorem zBX (ops : List Oper) : exec T (.reg ops) s = (steps (call T) ops ⟨[],s.env,s.st,s.base,s.lim⟩).map (zz4 s.base s.lim):=by
 refine zfN T s (fun n => by rw [zN]) fun r => ?_
 simp only [yb]
 constructor
 ·rintro ⟨x,hx,e⟩
  obtain ⟨n,hn⟩:=zjW ops hx
  exact ⟨n,x,hn,e⟩
 ·rintro ⟨n,x,hx,e⟩
  exact ⟨x,zdq (zkh T n) ops _ _ hx,e⟩
theorem zyM (ps : List (Nat × Nat)) (ops : List Oper) : exec T (.regd ps ops) s = (zwM (call T) ps ops ⟨[],s.env,s.st,s.base,s.lim⟩).map (zz4 s.base s.lim):=by
 refine zfN T s (fun n => by rw [zN]) fun r => ?_
 simp only [yb]
 constructor
 ·rintro ⟨x,hx,e⟩
  obtain ⟨n,hn⟩:=zAD ps ops hx
  exact ⟨n,x,hn,e⟩
 ·rintro ⟨n,x,hx,e⟩
  exact ⟨x,ztR (zkh T n) ps ops _ _ hx,e⟩
theorem zgt (a b : Code) : exec T (.seq a b) s = (exec T a s).bind (zso (exec T b)):=by
 refine zfN T s (fun n => by rw [zN]) fun r => zrr T s ?_ ?_ r
 ·exact fun x n m hnm => zs6 (fun s => zii T hnm b s) x
 ·rintro ⟨e,s'⟩ r
  cases e <;> first | exact zcM | exact zeS r
theorem zzb (x : X) (a b : Code) : exec T (.cond x a b) s = zrT (exec T a) (exec T b) s ((R.mk [] s.env s.st s.base s.lim).get x):=by
 refine zfN T s (fun n => by rw [zN]) fun r => ?_
 generalize (R.mk [] s.env s.st s.base s.lim).get x = v
 unfold zrT
 split
 ·rename_i t
  cases t <;> exact zcM
 ·exact zeS r
theorem zw0 (id : Nat) (body : Code) : exec T (.block id body) s = (exec T body s).map (zs9 id):=by
 refine zfN T s (fun n => by rw [zN]) fun r => ?_
 simp only [yb]
 constructor
 ·rintro ⟨x,hx,e⟩
  obtain ⟨n,hn⟩:=zcM.1 hx
  exact ⟨n,x,hn,e⟩
 ·rintro ⟨n,x,hx,e⟩
  exact ⟨x,zcM.2 ⟨n,hx⟩,e⟩
theorem zzI (live : List Bool) (objs : Nat) (body : Code) : exec T (.loop live objs body) s = (exec T body s).bind (zpT (exec T (.loop live objs body)) live objs):=by
 refine zfN T s (fun n => by rw [zN]) fun r => zrr T s ?_ ?_ r
 ·exact fun x n m hnm => zqD (fun s => zii T hnm _ s) live objs x
 ·rintro ⟨e,s'⟩ r
  cases e
  case normal =>
   simp only [zpT,ya]
   constructor
   ·rintro ⟨x,hx,h⟩
    obtain ⟨n,hn⟩:=zcM.1 h
    exact ⟨n,x,hx,hn⟩
   ·rintro ⟨n,x,hx,h⟩
    exact ⟨x,hx,zcM.2 ⟨n,h⟩⟩
  all_goals exact zeS r
theorem zmA (body : Code) : exec T (.scope body) s = exec T (.sc body body) s :=
 zfN T s (fun n => by rw [zN]) fun _ => zcM
theorem zgP (body cur : Code) : exec T (.sc body cur) s = (exec T cur s).bind (scK (exec T) body):=by
 refine zfN T s (fun n => by rw [zN]) fun r => zrr T s ?_ ?_ r
 ·exact fun x n m hnm => zvg (fun c s => zii T hnm c s) body x
 ·rintro ⟨e,s'⟩ r
  cases e <;> simp only [scK]
  case goto l =>
   split
   ·exact zcM
   ·exact zeS r
  all_goals exact zeS r
end eqs
theorem ze {T : Nat → Option Entry} {f : Nat} {fn : Fun} (h : T f = some (.fn fn)) (args : List V) (σ : zd) : call T f args σ = if args.length = fn.np then (exec T fn.body (enter fn args σ)).bind (leave fn.raw fn.results) else none:=by
 simp only [call,zfy,h]
end Go.A
