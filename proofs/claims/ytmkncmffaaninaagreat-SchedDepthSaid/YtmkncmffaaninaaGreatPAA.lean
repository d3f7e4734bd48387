/- A part of the proof of SchedDepth. Conditions: none. -/
import GoSem.Core.View
import Derived.Below
import Derived.Laws.CopyRow
import Derived.Deep.Draws
import Derived.Orders
import Derived.Laws.Entries
set_option linter.unusedVariables false
set_option linter.unusedSimpArgs false
set_option linter.unusedSectionVars false
open Array renaming getElem?_eq_some_iff → ya,getElem?_setIfInBounds → yo,getElem?_toList → yq
open List renaming getElem?_append_left → yb,getElem?_set_ne → ye,getElem?_append → yf,length_append → yg,getElem?_set → ym,all_eq_true → yn,mem_of_getElem? → yr,getElem?_eq_getElem → yt,take_succ_cons → yu,length_take → yw,eq_nil_of_length_eq_zero → yy,getElem?_append_right → yA,getElem?_range → yB,getD_eq_getElem?_getD → yC,getElem?_take → yD,replicate → yE,all_cons → yG,getElem?_drop → yJ,getElem?_map → yL,range → yM,mem_append → yN,map_id → yQ
open Nat renaming mul_le_mul_right → yc,le_refl → yh,add_mul → yk,add_sub_cancel_left → yl,le_of_not_lt → yp,le_max_left → yv,le_max_right → yx,lt_of_lt_of_le → yz,min_eq_left → yF,zero_add → yH,sub_mul → yI,le_trans → yK,lt_irrefl → yO
open Option renaming bind_eq_some_iff → yd,map_eq_some_iff → yi,map_some → yP
open Bool renaming and_eq_true → yj
namespace Go.A
inductive Fz where
 | lit (v : Value)
 | sl (xs : List (List Fz))
 deriving Inhabited
inductive C where
 | f (x : Fz)
 | ap (tok k : Nat) (xs : List (List Fz))
 | ptr (id ver i off : Nat)
 | fp (cs : List Fz) (off : Nat)
 | own (id ver lo n : Nat)
 | map (id : Nat)
 | fn (f : Nat) (first caps : List C)
 | un
 deriving Inhabited
inductive V where
 | one (c : C)
 | agg (cs : List C)
 | tup (vs : List V)
 deriving Inhabited
inductive Ob where
 | cells (ver sz : Nat) (es : List (List C))
 | tok (sz : Nat) (fr : List Nat)
 | mp (es : List (Int × V))
 deriving Inhabited
abbrev zd:=List Ob
inductive X where
 | l (d : Nat)
 | s (t : Nat)
 | c (v : V)
inductive Mode where
 | cl
 | ck
 | op
inductive B where
 | fz
 | tk
 | rw
inductive Op where
 | mv (x : X)
 | pick (c a b : X)
 | bin (op : BinOp) (x y : X)
 | eqa (n : Nat) (neg : Bool) (x y : X)
 | beq (neg : Bool) (x y : X)
 | pnil (neg : Bool) (x : X)
 | un (op : UnOp) (x : X)
 | conv (k : IntKind) (x : X)
 | len (x : X)
 | lens (x : X)
 | fa (off : Nat) (x : X)
 | ia (sz : Nat) (x i : X)
 | iaa (n sz : Nat) (x i : X)
 | ld (sz : Option Nat) (x : X)
 | st (sz : Nat) (x v : X)
 | al (zero : List C) (fresh : List (Nat × Nat))
 | box (sz : Nat) (x : X)
 | bld (zero : List C) (parts : List (Nat × Nat × X)) (fresh : List (Nat × Nat))
 | bsl (b : B) (sz : Nat) (zero : List (List C)) (parts : List (Nat × X))
 | nl (b : B) (sz : Nat)
 | app (sz : Nat) (s x : X)
 | cpy (sz : Nat) (x y : X)
 | mks (zero : List C) (fresh : Option (Nat × Nat)) (n : X)
 | mkc (sz : Nat) (n : X)
 | mkr (zero : List C) (j sz : Nat) (n : X)
 | slc (sz : Nat) (x : X) (lo hi mx : Option X)
 | slcs (x : X) (lo hi : Option X)
 | nlc (b : B) (sz : Nat) (x : X)
 | ext (x : X) (i : Nat)
 | fld (off : Nat) (sz : Option Nat) (x : X)
 | idx (n : Nat) (x i : X)
 | bxf (sz : Nat) (x : X)
 | frz (sz : Nat) (x : X)
 | sla (n lo : Nat) (x : X)
 | str (x : X)
 | steq (neg : Bool) (x y : X)
 | nil (x : X)
 | mkf (f : Nat) (first caps : List X)
 | mkm
 | lk (zero : V) (ok : Bool) (m k : X)
 | mu (m k v : X)
 | mxn (isMax : Bool) (x y : X)
 | call (m : Mode) (f : X) (args : List X)
 | no (why : String)
inductive D where
 | no
 | loc
 | slot (t : Nat)
structure Oper where
 dst : D
 op : Op
 guard : Option (X × Bool)
structure Spec where
 pre : List Oper
 m : X
 dst : Nat
 off : Nat
 sz : Option Nat
 row : Nat
 ns : List Nat
inductive Code where
 | skip
 | reg (ops : List Oper)
 | regd (ps : List (Nat × Nat)) (ops : List Oper)
 | spec (sp : Spec)
 | seq (a b : Code)
 | cond (c : X) (thn els : Code)
 | block (id : Nat) (body : Code)
 | loop (live : List Bool) (objs : Nat) (body : Code)
 | exit (id : Nat) (live : List Bool) (objs : Nat)
 | scope (body : Code)
 | sc (body cur : Code)
 | label (l : Nat)
 | goto (l : Nat) (live : List Bool) (objs : Nat)
 | ret (live : List Bool)
structure Fun where
 np : Nat
 nslots : Nat
 keep : Nat
 raw : Bool
 results : List (Nat × Option (Option Nat))
 body : Code
inductive Ex where
 | normal
 | exit (id : Nat)
 | goto (l : Nat)
 | ret
 deriving DecidableEq
def LIM : Nat:=4294967296
structure R where
 rs : List V
 env : List V
 st : zd
 base : Nat
 lim : Nat
def vun : V:=.one .un
def R.get (r : R) : X → V
 | .l k => r.rs.getD k vun
 | .s t => r.env.getD t vun
 | .c v => v
def R.put (r : R) : D → V → R
 | .no,_ => { r with rs:=vun :: r.rs }
 | .loc,v => { r with rs:=v :: r.rs }
 | .slot t,v => { r with rs:=vun :: r.rs,env:=r.env.set t v }
def V.cells : V → List C
 | .one c => [c]
 | .agg cs => cs
 | .tup _ => []
mutual
def C.lt (n : Nat) : C → Bool
 | .f _ => true
 | .ap t _ _ => decide (t < n)
 | .ptr id _ _ _ => decide (id < n)
 | .fp _ _ => true
 | .own id _ _ _ => decide (id < n)
 | .map id => decide (id < n)
 | .fn _ a b => C.lts n a && C.lts n b
 | .un => true
def C.lts (n : Nat) : List C → Bool
 | [] => true
 | c :: cs => c.lt n && C.lts n cs
end
mutual
def V.lt (n : Nat) : V → Bool
 | .one c => c.lt n
 | .agg cs => C.lts n cs
 | .tup vs => V.lts n vs
def V.lts (n : Nat) : List V → Bool
 | [] => true
 | v :: vs => v.lt n && V.lts n vs
end
def C.ltss (n : Nat) : List (List C) → Bool
 | [] => true
 | e :: es => C.lts n e && C.ltss n es
def C.ltm (n : Nat) : List (Int × V) → Bool
 | [] => true
 | e :: es => e.2.lt n && C.ltm n es
def Ob.lt (n : Nat) : Ob → Bool
 | .cells _ _ es => C.ltss n es
 | .tok _ _ => true
 | .mp es => C.ltm n es
def Obs.lt (n : Nat) : List Ob → Bool
 | [] => true
 | o :: os => o.lt n && Obs.lt n os
def C.kns : List C → Bool
 | [] => true
 | .un :: _ => false
 | _ :: cs => C.kns cs
def Ob.elem (ver i : Nat) : Ob → Option (List C)
 | .cells ver' _ es => if ver' = ver then es[i]? else none
 | _ => none
def zd.elem (σ : zd) (id ver i : Nat) : Option (List C):=(σ[id]?).bind (Ob.elem ver i)
def zd.cell (σ : zd) (id ver i off : Nat) : Option C:=(σ.elem id ver i).bind (·[off]?)
def zDp (e : List C) (off : Nat) (cs : List C) : Option (List C) :=
 if off + cs.length ≤ e.length then some (e.take off ++ (cs ++ e.drop (off + cs.length))) else none
def upd (ver sz i : Nat) (es : List (List C)) (e : List C) : Ob:=.cells ver sz (es.set i e)
def Ob.write (ver i off : Nat) (cs : List C) : Ob → Option Ob
 | .cells ver' sz es => if ver' = ver then ((es[i]?).bind fun e => zDp e off cs).map (upd ver' sz i es) else none
 | _ => none
def R.setOb (r : R) (id : Nat) (o : Ob) : R:={ r with st:=r.st.set id o }
def R.alloc (r : R) (o : Ob) : R:={ r with st:=r.st ++ [o] }
def R.write (r : R) (id ver i off : Nat) (cs : List C) : Option R :=
 if C.kns cs then ((r.st[id]?).bind (Ob.write ver i off cs)).map (r.setOb id) else none
def zFW (k : IntKind) (n : Int) : C:=.f (.lit (.int k n))
def zCh (k : IntKind) (n : Int) : V:=.one (.f (.lit (.int k n)))
def ziY (b : Bool) : V:=.one (.f (.lit (.bool b)))
def vsl (xs : List (List Fz)) : V:=.one (.f (.sl xs))
def vf (x : Fz) : V:=.one (.f x)
def zAo (xs : List Fz) : V:=.agg (xs.map C.f)
def vfp (e : List Fz) : V:=.one (.fp e 0)
def zER (c : C) : V:=.one c
def V.c1 : V → C
 | .one c => c
 | _ => .un
def zFw (op : BinOp) (k : IntKind) (a b : Int) : Option V :=
 match op with
 | .add => some (.one (.f (.lit (.int k (k.wrap (a + b))))))
 | .sub => some (.one (.f (.lit (.int k (k.wrap (a - b))))))
 | .mul => some (.one (.f (.lit (.int k (k.wrap (a * b))))))
 | .quo => if b = 0 then none else some (.one (.f (.lit (.int k (k.wrap (a.tdiv b))))))
 | .rem => if b = 0 then none else some (.one (.f (.lit (.int k (a.tmod b)))))
 | .eql => some (.one (.f (.lit (.bool (decide (a = b))))))
 | .neq => some (.one (.f (.lit (.bool (!decide (a = b))))))
 | .lss => some (.one (.f (.lit (.bool (decide (a < b))))))
 | .leq => some (.one (.f (.lit (.bool (decide (a ≤ b))))))
 | .gtr => some (.one (.f (.lit (.bool (decide (b < a))))))
 | .geq => some (.one (.f (.lit (.bool (decide (b ≤ a))))))
 | .and => some (.one (.f (.lit (.int k (k.wrap (BitVec.ofInt k.bits a &&& BitVec.ofInt k.bits b).toNat)))))
 | .or => some (.one (.f (.lit (.int k (k.wrap (BitVec.ofInt k.bits a ||| BitVec.ofInt k.bits b).toNat)))))
 | .xor => some (.one (.f (.lit (.int k (k.wrap (BitVec.ofInt k.bits a ^^^ BitVec.ofInt k.bits b).toNat)))))
 | _ => none
def zzg (op : BinOp) (k : IntKind) (a b : Int) : Option V :=
 if 0 ≤ b then
  match op with
  | .shl => some (.one (.f (.lit (.int k (k.wrap (a * 2 ^ (min b.toNat k.bits)))))))
  | .shr => some (.one (.f (.lit (.int k (a.fdiv (2 ^ (min b.toNat k.bits)))))))
  | _ => none
 else none
def zFv (op : BinOp) (a b : Bool) : Option V :=
 match op with
 | .eql => some (.one (.f (.lit (.bool (a == b)))))
 | .neq => some (.one (.f (.lit (.bool (a != b)))))
 | _ => none
def zsi : BinOp → Bool
 | .shl | .shr => true
 | _ => false
def zEW (op : BinOp) : V → V → Option V
 | .one (.f (.lit (.int k a))),.one (.f (.lit (.int k' b))) => if zsi op then zzg op k a b else if k = k' then zFw op k a b else none
 | _,_ => none
def aun : UnOp → V → Option V
 | .not,.one (.f (.lit (.bool b))) => some (.one (.f (.lit (.bool !b))))
 | .neg,.one (.f (.lit (.int k n))) => some (.one (.f (.lit (.int k (k.wrap (0 - n))))))
 | _,_ => none
def zjV : List C → List C → Option Bool
 | [],[] => some true
 | .f (.lit (.int k a)) :: xs,.f (.lit (.int k' b)) :: ys => if k = k' then (zjV xs ys).map (decide (a = b) && ·) else none
 | _,_ => none
def zEX (neg : Bool) : V → V → Option V
 | .one (.f (.lit (.bool a))),.one (.f (.lit (.bool b))) => some (ziY (if neg then !(a == b) else a == b))
 | _,_ => none
def zBp (neg : Bool) : V → Option V
 | .one (.ptr _ _ _ _) => some (ziY neg)
 | .one (.fp _ _) => some (ziY neg)
 | .one (.f (.lit (.pointer none))) => some (ziY (!neg))
 | _ => none
def zEP (neg b : Bool) : V:=ziY (if neg then !b else b)
def zE5 (n : Nat) (neg : Bool) : V → V → Option V
 | .agg xs,.agg ys => if xs.length = n then (zjV xs ys).map (zEP neg) else none
 | _,_ => none
abbrev zad:=Nat → List V → zd → Option (V × zd)
def zui : C → Option Fz
 | .f x => some x
 | .ap _ _ xs => some (.sl xs)
 | _ => none
def zfO {α : Type} : Option α → Option (List α) → Option (List α)
 | some x,some xs => some (x :: xs)
 | _,_ => none
def zdo : List C → Option (List Fz)
 | [] => some []
 | c :: cs => zfO (zui c) (zdo cs)
def zaq : List (List C) → Option (List (List Fz))
 | [] => some []
 | c :: cs => zfO (zdo c) (zaq cs)
def Ob.frz (ver lo n : Nat) : Ob → Option (List (List Fz))
 | .cells ver' _ es => if ver' = ver then zaq ((es.drop lo).take n) else none
 | _ => none
def zC9 (σ : zd) : V → Option V
 | .one (.own id ver lo n) => ((σ[id]?).bind (Ob.frz ver lo n)).map vsl
 | .one (.fn g [] []) => some (.one (.fn g [] []))
 | .one c => (zui c).map vf
 | .agg cs => (zdo cs).map zAo
 | .tup _ => none
def zpK (σ : zd) : List V → Option (List V)
 | [] => some []
 | v :: vs => zfO (zC9 σ v) (zpK σ vs)
def elems (σ : zd) : V → Option (List (List Fz))
 | .one (.own id ver lo n) => (σ[id]?).bind (Ob.frz ver lo n)
 | .one (.f (.sl xs)) => some xs
 | .one (.ap _ _ xs) => some xs
 | _ => none
def Ob.front (sz k : Nat) : Ob → Option Nat
 | .tok sz' fr => if sz' = sz then fr[k]? else none
 | _ => none
def Ob.setFront (k n : Nat) : Ob → Ob
 | .tok sz fr => .tok sz (fr.set k n)
 | o => o
def Ob.grow (n : Nat) (ys : List (List C)) : Ob → Ob
 | .cells ver sz es => .cells (ver + 1) sz (es.take n ++ ys)
 | o => o
def Ob.isRow (ver sz : Nat) : Ob → Bool
 | .cells ver' sz' _ => decide (ver' = ver) && decide (sz' = sz)
 | _ => false
def zor (r : R) (d : D) (sz t k : Nat) (xs ys : List (List Fz)) (o : Ob) : Option R :=
 if o.front sz k = some xs.length ∧ xs.length + ys.length ≤ LIM then some ((r.setOb t (o.setFront k (xs.length + ys.length))).put d (.one (.ap t k (xs ++ ys)))) else none
def ztE (r : R) (d : D) (sz id ver n : Nat) (ys : List (List Fz)) (o : Ob) : Option R :=
 if o.isRow ver sz = true ∧ 0 < n + ys.length ∧ n + ys.length ≤ LIM then some ((r.setOb id (o.grow n (ys.map fun e => e.map C.f))).put d (.one (.own id (ver + 1) 0 (n + ys.length)))) else if o.isRow ver sz = true ∧ n + ys.length = 0 then some (r.put d (.one (.own id ver 0 0))) else none
def znw (sz : Nat) : List (List Fz) → Bool
 | [] => true
 | e :: es => decide (e.length = sz) && znw sz es
def zCM (r : R) (d : D) (sz : Nat) (ys : List (List Fz)) : V → Option R
 | .one (.ap t k xs) => (r.st[t]?).bind (zor r d sz t k xs ys)
 | .one (.own id ver 0 n) => (r.st[id]?).bind (ztE r d sz id ver n ys)
 | _ => none
def zjp (r : R) (d : D) (sz id ver lo k : Nat) (ys : List (List Fz)) : Ob → Option R
 | .cells ver' sz' es => if ver' = ver ∧ sz' = sz ∧ lo + k ≤ es.length then
  some ((r.setOb id (.cells ver sz (es.take lo ++ ((ys.take k).map (fun e => e.map C.f) ++ es.drop (lo + k))))).put d (zCh .i64 k)) else none
 | _ => none
def zEA (r : R) (d : D) (sz : Nat) (ys : List (List Fz)) : V → Option R
 | .one (.own id ver lo n) => if min ys.length n = 0 then none else (r.st[id]?).bind (zjp r d sz id ver lo (min ys.length n) ys)
 | _ => none
def zmU (r : R) : List (Nat × Nat × X) → List C → Option (List C)
 | [],cells => some cells
 | (off,sz,x) :: rest,cells => if (r.get x).cells.length = sz ∧ C.kns (r.get x).cells = true then (zDp cells off (r.get x).cells).bind (zmU r rest) else none
def znS (r : R) (sz : Nat) : List (Nat × X) → List (List C) → Option (List (List C))
 | [],cells => some cells
 | (i,x) :: rest,cells => if i < cells.length ∧ (r.get x).cells.length = sz ∧ C.kns (r.get x).cells = true then znS r sz rest (cells.set i (r.get x).cells) else none
def zCv (sz : Nat) : Ob:=if 4096 ≤ sz then .cells 0 (sz - 4096) [] else .tok sz [0]
def zDQ (t sz : Nat) : C:=if 4096 ≤ sz then .own t 0 0 0 else .ap t 0 []
def zf4 : Nat → List (Nat × Nat) → List C → List C
 | _,[],cs => cs
 | t,j :: js,cs => zf4 (t + 1) js (cs.set j.1 (zDQ t j.2))
def tokens : List (Nat × Nat) → List Ob
 | [] => []
 | j :: js => zCv j.2 :: tokens js
def R.allocs (r : R) (os : List Ob) : R:={ r with st:=r.st ++ os }
def aal (r : R) (d : D) (zero : List C) (fresh : List (Nat × Nat)) : R :=
 (r.allocs (tokens fresh ++ [.cells 0 zero.length [zf4 r.st.length fresh zero]])).put d (.one (.ptr (r.st.length + fresh.length) 0 0 0))
def zDT (r : R) (d : D) (fresh : List (Nat × Nat)) (cs : List C) : R:=(r.allocs (tokens fresh)).put d (.agg cs)
def zDb (r : R) (d : D) (xs : List (List Fz)) : R:=r.put d (vsl xs)
def zyY (r : R) (d : D) (sz : Nat) (xs : List (List Fz)) : R:=(r.alloc (.tok sz [xs.length])).put d (.one (.ap r.st.length 0 xs))
def zv3 (r : R) (d : D) (sz : Nat) : B → List (List C) → Option R
 | .fz,es => (zaq es).map (zDb r d)
 | .tk,es => (zaq es).map (zyY r d sz)
 | .rw,es => some ((r.alloc (.cells 0 sz es)).put d (.one (.own r.st.length 0 0 es.length)))
def zEz : V → Option V
 | .one (.own _ _ _ n) => some (zCh .i64 n)
 | .one (.f (.sl xs)) => some (zCh .i64 xs.length)
 | .one (.ap _ _ xs) => some (zCh .i64 xs.length)
 | _ => none
def zAI : V → Option V
 | .one (.f (.lit (.string s))) => some (zCh .i64 s.size)
 | _ => none
def afa (off : Nat) : V → Option V
 | .one (.ptr id ver i o) => some (.one (.ptr id ver i (o + off)))
 | .one (.fp cs o) => some (.one (.fp cs (o + off)))
 | _ => none
def zEM (sz : Nat) (e : List Fz) : Option V:=if e.length = sz then some (vfp e) else none
def ztT (id ver sz lo : Nat) (k : Int) (o : Ob) : Option V:=if o.isRow ver sz then some (.one (.ptr id ver (lo + k.toNat) 0)) else none
def aia (σ : zd) (sz : Nat) : V → V → Option V
 | .one (.own id ver lo n),.one (.f (.lit (.int _ k))) => if 0 ≤ k ∧ k < n then (σ[id]?).bind (ztT id ver sz lo k) else none
 | .one (.f (.sl xs)),.one (.f (.lit (.int _ k))) => if 0 ≤ k then (xs[k.toNat]?).bind (zEM sz) else none
 | .one (.ap _ _ xs),.one (.f (.lit (.int _ k))) => if 0 ≤ k then (xs[k.toNat]?).bind (zEM sz) else none
 | _,_ => none
def zES (n sz : Nat) : V → V → Option V
 | .one (.ptr id ver j o),.one (.f (.lit (.int _ k))) => if 0 ≤ k ∧ k < n then some (.one (.ptr id ver j (o + k.toNat * sz))) else none
 | .one (.fp cs o),.one (.f (.lit (.int _ k))) => if 0 ≤ k ∧ k < n then some (.one (.fp cs (o + k.toNat * sz))) else none
 | _,_ => none
def cut {α : Type} (o n : Nat) (e : List α) : Option (List α):=if o + n ≤ e.length then some ((e.drop o).take n) else none
def ald (σ : zd) : Option Nat → V → Option V
 | none,.one (.ptr id ver i o) => (σ.cell id ver i o).map zER
 | none,.one (.fp cs o) => (cs[o]?).map vf
 | some n,.one (.ptr id ver i o) => ((σ.elem id ver i).bind (cut o n)).map V.agg
 | some n,.one (.fp cs o) => (cut o n cs).map zAo
 | _,_ => none
def ast (r : R) (sz : Nat) (cs : List C) : V → Option R
 | .one (.ptr id ver i o) => if cs.length = sz then r.write id ver i o cs else none
 | _ => none
def nest (t : Nat) (zero : List C) (j : Nat) (k : Nat) : List C:=zero.set j (.ap t k [])
def zDU (r : R) (d : D) (zero : List C) : Option (Nat × Nat) → V → Option R
 | none,.one (.f (.lit (.int _ k))) => if 0 ≤ k ∧ k ≤ LIM then some ((r.alloc (.cells 0 zero.length (yE k.toNat zero))).put d (.one (.own r.st.length 0 0 k.toNat))) else none
 | some j,.one (.f (.lit (.int _ k))) => if 0 ≤ k ∧ k ≤ LIM then
  some ((r.allocs [.tok j.2 (yE k.toNat 0),.cells 0 zero.length ((yM k.toNat).map (nest r.st.length zero j.1))]).put d (.one (.own (r.st.length + 1) 0 0 k.toNat))) else none
 | _,_ => none
def zpQ (t : Nat) (zero : List C) (j : Nat) (k : Nat) : List C:=zero.set j (.own (t + k) 0 0 0)
def zEs (r : R) (d : D) (zero : List C) (j sz : Nat) : V → Option R
 | .one (.f (.lit (.int _ k))) => if 0 ≤ k ∧ k ≤ LIM then
  some ((r.allocs (yE k.toNat (.cells 0 sz []) ++ [.cells 0 zero.length ((yM k.toNat).map (zpQ r.st.length zero j))])).put d (.one (.own (r.st.length + k.toNat) 0 0 k.toNat))) else none
 | _ => none
def zEc (r : R) (d : D) (sz : Nat) : V → Option R
 | .one (.f (.lit (.int _ k))) => if 0 ≤ k ∧ k ≤ LIM then some ((r.alloc (.tok sz [0])).put d (.one (.ap r.st.length 0 []))) else none
 | _ => none
def zAz : V → Option Nat
 | .one (.f (.lit (.int _ k))) => if 0 ≤ k then some k.toNat else none
 | _ => none
def bound (r : R) (dflt : Nat) : Option X → Option Nat
 | none => some dflt
 | some x => zAz (r.get x)
def zya (sz : Nat) (xs : List (List Fz)) (lo hi : Nat) : Option V:=if lo ≤ hi ∧ hi ≤ xs.length ∧ znw sz xs = true then some (vsl ((xs.take hi).drop lo)) else none
def zAk (σ : zd) (sz id ver l n lo hi : Nat) : Option V:=if lo ≤ hi ∧ hi ≤ n ∧ (σ[id]?).any (Ob.isRow ver sz) = true then some (.one (.own id ver (l + lo) (hi - lo))) else none
def zDi (s : ByteArray) (lo hi : Nat) : Option V:=if lo ≤ hi ∧ hi ≤ s.size then some (.one (.f (.lit (.string (s.extract lo hi))))) else none
def two (f : Nat → Nat → Option V) : Option Nat → Option Nat → Option V
 | some a,some b => f a b
 | _,_ => none
def zuh : V → V → Bool
 | .one (.f (.lit (.int k a))),.one (.f (.lit (.int k' b))) => decide (k = k') && decide (a = b)
 | _,_ => false
def zB5 (r : R) (hi : Option X) : Option X → Bool
 | none => true
 | some m => match hi with
   | some h => zuh (r.get m) (r.get h)
   | none => false
def zEt (r : R) (sz : Nat) (lo hi : Option X) (mx : Bool) : V → Option V
 | .one (.f (.sl xs)) => two (zya sz xs) (bound r 0 lo) (bound r xs.length hi)
 | .one (.ap _ _ xs) => two (zya sz xs) (bound r 0 lo) (bound r xs.length hi)
 | .one (.own id ver l n) => if mx then none else two (zAk r.st sz id ver l n) (bound r 0 lo) (bound r n hi)
 | _ => none
def zuz (r : R) (lo hi : Option X) : V → Option V
 | .one (.f (.lit (.string s))) => two (zDi s) (bound r 0 lo) (bound r s.size hi)
 | _ => none
def zFL : V → Bool
 | .one (.f (.sl _)) => true
 | .one (.ap _ _ _) => true
 | _ => false
def zE6 (i : Nat) : V → Option V
 | .tup vs => vs[i]?
 | _ => none
def zD1 (off : Nat) : Option Nat → V → Option V
 | none,.agg cs => (cs[off]?).map zER
 | some n,.agg cs => (cut off n cs).map V.agg
 | _,_ => none
def zEY (n : Nat) : V → V → Option V
 | .agg cs,.one (.f (.lit (.int _ k))) => if 0 ≤ k ∧ k < n then (cs[k.toNat]?).map zER else none
 | _,_ => none
def single (c : Fz) : List Fz:=[c]
def zE4 (n lo : Nat) : V → Option V
 | .one (.fp cs 0) => if cs.length = n ∧ lo ≤ n then some (vsl ((cs.drop lo).map single)) else none
 | _ => none
def byteOf : List Fz → Option Int
 | [.lit (.int .u8 n)] => some n
 | _ => none
def bytesOf : List (List Fz) → Option (List Int)
 | [] => some []
 | e :: es => zfO (byteOf e) (bytesOf es)
def strOf (ns : List Int) : ByteArray:=⟨(ns.map fun n => UInt8.ofNat n.toNat).toArray⟩
def zFN (ns : List Int) : V:=.one (.f (.lit (.string (strOf ns))))
def zE1 (xs : List (List Fz)) : Option V:=(bytesOf xs).map zFN
def zAu (neg : Bool) : V → V → Option V
 | .one (.f (.lit (.string a))),.one (.f (.lit (.string b))) => some (ziY (if neg then !(a.toList == b.toList) else a.toList == b.toList))
 | _,_ => none
def zuk (r : R) (d : D) (sz id ver n : Nat) (rows : List (List Fz)) : R:=(r.setOb id (.cells (ver + 1) sz [])).put d (vsl (rows.take n))
def zvj (r : R) (d : D) (sz id ver n : Nat) : Ob → Option R
 | .cells ver' sz' es => if ver' = ver ∧ sz' = sz then (zaq es).map (zuk r d sz id ver n) else none
 | _ => none
def zEa (r : R) (d : D) (sz : Nat) : V → Option R
 | .one (.own id ver 0 n) => (r.st[id]?).bind (zvj r d sz id ver n)
 | _ => none
def zFz (r : R) (d : D) (fs : List Fz) : R:=r.put d (.one (.fp fs 0))
def zE2 : V → Option V
 | .one (.ptr id ver i o) => some (.one (.ptr id ver i o))
 | .one (.fp cs o) => some (.one (.fp cs o))
 | .one (.fn f a b) => some (.one (.fn f a b))
 | _ => none
def zAZ (a b : V) : V → Option V
 | .one (.f (.lit (.bool t))) => some (if t then a else b)
 | _ => none
def zBW (k : IntKind) : V → Option V
 | .one (.f (.lit (.int _ n))) => some (zCh k (k.wrap n))
 | _ => none
def zET (isMax : Bool) : V → V → Option V
 | .one (.f (.lit (.int k a))),.one (.f (.lit (.int k' b))) => if k = k' then some (zCh k (if isMax then max a b else min a b)) else none
 | _,_ => none
def zif (k : Int) : List (Int × V) → Option V
 | [] => none
 | e :: es => if e.1 = k then some e.2 else zif k es
def zl1 (k : Int) (v : V) : List (Int × V) → List (Int × V)
 | [] => [(k,v)]
 | e :: es => if e.1 = k then (k,v) :: es else e :: zl1 k v es
def Ob.entries : Ob → Option (List (Int × V))
 | .mp es => some es
 | _ => none
def zDn (zero : V) (ok : Bool) : Option V → V
 | some v => if ok then .tup [v,ziY true] else v
 | none => if ok then .tup [zero,ziY false] else zero
def alk (σ : zd) (zero : V) (ok : Bool) : V → V → Option V
 | .one (.map id),.one (.f (.lit (.int .i64 k))) => ((σ[id]?).bind Ob.entries).map fun es => zDn zero ok (zif k es)
 | .one (.f (.lit (.map none))),.one (.f (.lit (.int .i64 _))) => some (zDn zero ok none)
 | _,_ => none
def zDY (r : R) (id : Nat) (k : Int) (v : V) (es : List (Int × V)) : R:=r.setOb id (.mp (zl1 k v es))
def amu (r : R) (v : V) : V → V → Option R
 | .one (.map id),.one (.f (.lit (.int .i64 k))) => ((r.st[id]?).bind Ob.entries).map (zDY r id k v)
 | _,_ => none
mutual
def C.shift (n : Nat) : C → C
 | .f x => .f x
 | .ap t k xs => .ap (t + n) k xs
 | .ptr id ver i o => .ptr (id + n) ver i o
 | .fp cs o => .fp cs o
 | .own id ver lo m => .own (id + n) ver lo m
 | .map id => .map (id + n)
 | .fn g a b => .fn g (C.shifts n a) (C.shifts n b)
 | .un => .un
def C.shifts (n : Nat) : List C → List C
 | [] => []
 | c :: cs => c.shift n :: C.shifts n cs
end
mutual
def V.shift (n : Nat) : V → V
 | .one c => .one (c.shift n)
 | .agg cs => .agg (C.shifts n cs)
 | .tup vs => .tup (V.shifts n vs)
def V.shifts (n : Nat) : List V → List V
 | [] => []
 | v :: vs => v.shift n :: V.shifts n vs
end
def Ob.shift (n : Nat) : Ob → Ob
 | .cells ver sz es => .cells ver sz (es.map (C.shifts n))
 | .tok sz fr => .tok sz fr
 | .mp es => .mp (es.map fun e => (e.1,e.2.shift n))
def ztW : V → Bool
 | .one (.own _ _ _ _) => true
 | _ => false
mutual
def V.plain : V → Bool
 | .one (.f (.lit _)) => true
 | .one _ => false
 | .agg cs => cs.all fun c => match c with
   | .f (.lit _) => true
   | _ => false
 | .tup vs => V.plains vs
def V.plains : List V → Bool
 | [] => true
 | v :: vs => v.plain && V.plains vs
end
def zvV (r : R) (d : D) (lent : Bool) (x : V × zd) : Option R:=if x.2.length = 0 ∧ (lent = false ∨ x.1.plain = true) then some (r.put d x.1) else none
def zvS (r : R) (d : D) (x : V × zd) : R:={ r with st:=r.st ++ x.2.map (Ob.shift r.st.length) }.put d (x.1.shift r.st.length)
def zvP (r : R) (d : D) (x : V × zd) : R:={ r with st:=x.2 }.put d x.1
def closed (c : zad) (g : Nat) (as : List V) : Option (V × zd):=c g as []
def znQ (call : zad) (r : R) (d : D) (m : Mode) (args : List V) : V → Option R
 | .one (.fn g first caps) =>
   match m with
   | .cl => ((zpK r.st (first.map V.one ++ (args ++ caps.map V.one))).bind (closed call g)).bind (zvV r d ((first.map V.one ++ (args ++ caps.map V.one)).any ztW))
   | .ck => if (first.map V.one ++ (args ++ caps.map V.one)).any ztW then none else ((zpK r.st (first.map V.one ++ (args ++ caps.map V.one))).bind (closed call g)).map (zvS r d)
   | .op => (call g (first.map V.one ++ (args ++ caps.map V.one)) r.st).map (zvP r d)
 | _ => none
def R.gets (r : R) : List X → List V
 | [] => []
 | x :: xs => r.get x :: r.gets xs
def anl (r : R) (d : D) (sz : Nat) : B → Option R
 | .tk => some ((r.alloc (.tok sz [0])).put d (.one (.ap r.st.length 0 [])))
 | .rw => some ((r.alloc (.cells 0 sz [])).put d (.one (.own r.st.length 0 0 0)))
 | .fz => some (r.put d (vsl []))
def za5 (call : zad) (r : R) (d : D) : Op → Option R
 | .mv x => some (r.put d (r.get x))
 | .pick c a b => (zAZ (r.get a) (r.get b) (r.get c)).map (r.put d)
 | .bin op x y => (zEW op (r.get x) (r.get y)).map (r.put d)
 | .beq neg x y => (zEX neg (r.get x) (r.get y)).map (r.put d)
 | .pnil neg x => (zBp neg (r.get x)).map (r.put d)
 | .eqa n neg x y => (zE5 n neg (r.get x) (r.get y)).map (r.put d)
 | .un op x => (aun op (r.get x)).map (r.put d)
 | .conv k x => (zBW k (r.get x)).map (r.put d)
 | .len x => (zEz (r.get x)).map (r.put d)
 | .lens x => (zAI (r.get x)).map (r.put d)
 | .fa off x => (afa off (r.get x)).map (r.put d)
 | .ia sz x i => (aia r.st sz (r.get x) (r.get i)).map (r.put d)
 | .iaa n sz x i => (zES n sz (r.get x) (r.get i)).map (r.put d)
 | .ld sz x => (ald r.st sz (r.get x)).map (r.put d)
 | .st sz x v => (ast r sz (r.get v).cells (r.get x)).map fun r => r.put d vun
 | .al zero fresh => some (aal r d zero fresh)
 | .box sz x => if (r.get x).cells.length = sz ∧ C.kns (r.get x).cells = true then some ((r.alloc (.cells 0 sz [(r.get x).cells])).put d (.one (.ptr r.st.length 0 0 0))) else none
 | .bld zero parts fresh => (zmU r parts (zf4 r.st.length fresh zero)).map (zDT r d fresh)
 | .bsl b sz zero parts => (znS r sz parts zero).bind (zv3 r d sz b)
 | .nl b sz => anl r d sz b
 | .app sz s x => (elems r.st (r.get x)).bind fun ys => if znw sz ys then zCM r d sz ys (r.get s) else none
 | .cpy sz x y => (elems r.st (r.get y)).bind fun ys => if znw sz ys then zEA r d sz ys (r.get x) else none
 | .mks zero fresh n => zDU r d zero fresh (r.get n)
 | .mkc sz n => zEc r d sz (r.get n)
 | .mkr zero j sz n => zEs r d zero j sz (r.get n)
 | .slc sz x lo hi mx => if zB5 r hi mx = true then (zEt r sz lo hi mx.isSome (r.get x)).map (r.put d) else none
 | .slcs x lo hi => (zuz r lo hi (r.get x)).map (r.put d)
 | .nlc b sz x => if zFL (r.get x) then anl r d sz b else none
 | .ext x i => (zE6 i (r.get x)).map (r.put d)
 | .fld off sz x => (zD1 off sz (r.get x)).map (r.put d)
 | .idx n x i => (zEY n (r.get x) (r.get i)).map (r.put d)
 | .bxf sz x => if (r.get x).cells.length = sz then (zdo (r.get x).cells).map (zFz r d) else none
 | .frz sz x => zEa r d sz (r.get x)
 | .sla n lo x => (zE4 n lo (r.get x)).map (r.put d)
 | .str x => ((elems r.st (r.get x)).bind zE1).map (r.put d)
 | .steq neg x y => (zAu neg (r.get x) (r.get y)).map (r.put d)
 | .nil x => (zE2 (r.get x)).map (r.put d)
 | .mkf f first caps => some (r.put d (.one (.fn f ((r.gets first).map V.c1) ((r.gets caps).map V.c1))))
 | .mkm => some ((r.alloc (.mp [])).put d (.one (.map r.st.length)))
 | .lk zero ok m k => (alk r.st zero ok (r.get m) (r.get k)).map (r.put d)
 | .mu m k v => (amu r (r.get v) (r.get m) (r.get k)).map fun r => r.put d vun
 | .mxn isMax x y => (zET isMax (r.get x) (r.get y)).map (r.put d)
 | .call m f args => znQ call r d m (r.gets args) (r.get f)
 | .no _ => none
def znH (call : zad) (r : R) (d : D) (op : Op) (b : Bool) : V → Option R
 | .one (.f (.lit (.bool t))) => if t = b then za5 call r d op else some (r.put d (.tup []))
 | .tup [] => some (r.put d (.tup []))
 | _ => none
def step (call : zad) (r : R) : Oper → Option R
 | ⟨d,op,none⟩ => za5 call r d op
 | ⟨d,op,some (x,b)⟩ => znH call r d op b (r.get x)
def steps (call : zad) : List Oper → R → Option R
 | [],r => some r
 | o :: os,r => (step call r o).bind (steps call os)
def Value.beq : Value → Value → Bool
 | .int k a,.int k' b => decide (k = k') && decide (a = b)
 | .bool a,.bool b => a == b
 | .string a,.string b => decide (a.data.toList = b.data.toList)
 | _,_ => false
mutual
def Fz.beq : Fz → Fz → Bool
 | .lit v,.lit u => Value.beq v u
 | .sl xs,.sl ys => Fz.beqs xs ys
 | _,_ => false
def Fz.beqR : List Fz → List Fz → Bool
 | [],[] => true
 | x :: xs,y :: ys => x.beq y && Fz.beqR xs ys
 | _,_ => false
def Fz.beqs : List (List Fz) → List (List Fz) → Bool
 | [],[] => true
 | x :: xs,y :: ys => Fz.beqR x y && Fz.beqs xs ys
 | _,_ => false
end
def C.beq : C → C → Bool
 | .f x,.f y => x.beq y
 | .ap t k xs,.ap t' k' ys => decide (t = t') && decide (k = k') && Fz.beqs xs ys
 | .ptr a b c d,.ptr a' b' c' d' => decide (a = a') && decide (b = b') && decide (c = c') && decide (d = d')
 | .fp xs o,.fp ys o' => Fz.beqR xs ys && decide (o = o')
 | .own a b c d,.own a' b' c' d' => decide (a = a') && decide (b = b') && decide (c = c') && decide (d = d')
 | .map a,.map b => decide (a = b)
 | _,_ => false
def C.beqs : List C → List C → Bool
 | [],[] => true
 | x :: xs,y :: ys => x.beq y && C.beqs xs ys
 | _,_ => false
def V.beq : V → V → Bool
 | .one c,.one d => c.beq d
 | .agg cs,.agg ds => C.beqs cs ds
 | _,_ => false
def zvU : zad:=fun _ _ _ => none
def zt9 : Option R → Option R → Bool
 | some a,some b => (a.rs.headD vun).beq (b.rs.headD vun)
 | _,_ => false
def zdc (c : zad) (ops : List Oper) (r : R) (p : Nat × Nat) : Bool:=match steps c (ops.take p.1) r,steps c (ops.take p.2) r,ops[p.1]? with
 | some rj,some rk,some x => zt9 (step zvU { rj with st:=rk.st } x) (step zvU rj x)
 | _,_,_ => false
def zwR (c : zad) (ps : List (Nat × Nat)) (ops : List Oper) (r : R) : Option R:=(steps c ops r).bind fun r1 => if ps.all (zdc c ops r) then some r1 else none
structure St where
 env : List V
 st : zd
 base : Nat
 lim : Nat
def clr : List Bool → List V → List V
 | [],_ => []
 | true :: bs,v :: vs => v :: clr bs vs
 | false :: bs,_ :: vs => vun :: clr bs vs
 | _,[] => []
def zlW (n : Nat) (env : List V) (σ : zd) : Option zd :=
 if σ.length ≤ n then some σ else if V.lts n env && Obs.lt n (σ.take n) then some (σ.take n) else none
def St.mkSt (s : St) (env : List V) (σ : zd) : St:={ s with env:=env,st:=σ }
def St.clear (s : St) (live : List Bool) (objs : Nat) : Option St :=
 (zlW (s.base + objs) (clr live s.env) s.st).map (s.mkSt (clr live s.env))
def zDS (e : Ex) (s : St) : Ex × St:=(e,s)
def findLabel : Code → Nat → Option Code
 | .seq a b,l => match findLabel a l with
   | some rest => some (.seq rest b)
   | none => findLabel b l
 | .label l',l => if l' = l then some .skip else none
 | _,_ => none
def enter (fn : Fun) (args : List V) (σ : zd) : St:=⟨args ++ yE (fn.nslots - args.length) vun,σ,σ.length,σ.length + fn.keep⟩
def zBH (lim : Nat) (σ : zd) : C → Option Fz
 | .own id ver lo n => if lim ≤ id then ((σ[id]?).bind (Ob.frz ver lo n)).map Fz.sl else none
 | c => zui c
def zix (lim : Nat) (σ : zd) : List C → Option (List Fz)
 | [] => some []
 | c :: cs => zfO (zBH lim σ c) (zix lim σ cs)
def zCx (lim : Nat) (σ : zd) : V → Option V
 | .one (.own id ver lo n) => if lim ≤ id then ((σ[id]?).bind (Ob.frz ver lo n)).map vsl else none
 | .one (.ap _ _ xs) => some (vsl xs)
 | .agg cs => (zix lim σ cs).map zAo
 | v => some v
def zsC (σ : zd) (env : List V) : Nat × Option (Option Nat) → Option V
 | (t,none) => some (env.getD t vun)
 | (t,some sz) => ald σ sz (env.getD t vun)
def zz5 (raw : Bool) (lim : Nat) (σ : zd) (v : V) : Option V:=if raw then some v else zCx lim σ v
def outs (raw : Bool) (lim : Nat) (σ : zd) (env : List V) : List (Nat × Option (Option Nat)) → Option (List V)
 | [] => some []
 | t :: ts => zfO ((zsC σ env t).bind (zz5 raw lim σ)) (outs raw lim σ env ts)
def zCs : List V → V
 | [v] => v
 | vs => .tup vs
def zlD (lim : Nat) (σ : zd) (vs : List V) : Option (V × zd):=(zlW lim vs σ).map fun σ' => (zCs vs,σ')
def leave (raw : Bool) (res : List (Nat × Option (Option Nat))) : Ex × St → Option (V × zd)
 | (.normal,s) => (outs raw s.lim s.st s.env res).bind (zlD s.lim s.st)
 | (.ret,s) => (outs raw s.lim s.st s.env res).bind (zlD s.lim s.st)
 | _ => none
inductive Entry where
 | fn (f : Fun)
 | ext (f : List V → zd → Option (V × zd))
def zfy (T : Nat → Option Entry) (E : Code → St → Option (Ex × St)) : zad:=fun f args σ =>
 match T f with
 | some (.fn fn) => if args.length = fn.np then (E fn.body (enter fn args σ)).bind (leave fn.raw fn.results) else none
 | some (.ext g) => g args σ
 | none => none
def zsm (E : St → Option (Ex × St)) : Ex × St → Option (Ex × St)
 | (.normal,s) => E s
 | (.exit i,s) => some (.exit i,s)
 | (.goto i,s) => some (.goto i,s)
 | (.ret,s) => some (.ret,s)
def zsa (A B : St → Option (Ex × St)) (s : St) : V → Option (Ex × St)
 | .one (.f (.lit (.bool t))) => if t then A s else B s
 | _ => none
def ztt (id : Nat) : Ex × St → Ex × St
 | (.exit id',s) => if id' = id then (.normal,s) else (.exit id',s)
 | r => r
def zpN (E : St → Option (Ex × St)) (live : List Bool) (objs : Nat) : Ex × St → Option (Ex × St)
 | (.normal,s) => (s.clear live objs).bind E
 | (.exit i,s) => some (.exit i,s)
 | (.goto i,s) => some (.goto i,s)
 | (.ret,s) => some (.ret,s)
def scK (E : Code → St → Option (Ex × St)) (body : Code) : Ex × St → Option (Ex × St)
 | (.goto l,s) => match findLabel body l with
   | some rest => E (.sc body rest) s
   | none => some (.goto l,s)
 | r => some r
def zza (base lim : Nat) (r : R) : Ex × St:=(.normal,⟨r.env,r.st,base,lim⟩)
def zvY (off : Nat) (sz : Option Nat) (row : Nat) : List (Int × V) → List (Int × V) → Option (List (Int × V))
 | [],ds => some ds
 | e :: es,ds => if e.2.cells.length = row ∧ C.kns e.2.cells = true then (zD1 off sz e.2).bind fun v => zvY off sz row es (zl1 e.1 v ds) else none
def zCy (sp : Spec) (s : St) (σ : zd) : V → V → Option St
 | .one (.map id),.one (.map id') => if id = id' then none else
  ((σ[id]?).bind Ob.entries).bind fun es => ((σ[id']?).bind Ob.entries).bind fun ds => (zvY sp.off sp.sz sp.row es ds).map fun ds' => s.mkSt s.env (σ.set id' (.mp ds'))
 | _,_ => none
def zAD (sp : Spec) (s : St) : Option St:=(steps zvU sp.pre ⟨[],s.env,s.st,s.base,s.lim⟩).bind fun r => zCy sp (s.mkSt r.env r.st) r.st (r.get sp.m) (r.env.getD sp.dst vun)
def zN (T : Nat → Option Entry) : Nat → Code → St → Option (Ex × St)
 | 0,_,_ => none
 | n + 1,c,s =>
   match c with
   | .skip => some (.normal,s)
   | .reg ops => (steps (zfy T (zN T n)) ops ⟨[],s.env,s.st,s.base,s.lim⟩).map (zza s.base s.lim)
   | .regd ps ops => (zwR (zfy T (zN T n)) ps ops ⟨[],s.env,s.st,s.base,s.lim⟩).map (zza s.base s.lim)
   | .spec sp => (zAD sp s).map (zDS .normal)
   | .seq a b => (zN T n a s).bind (zsm (zN T n b))
   | .cond x a b => zsa (zN T n a) (zN T n b) s ((R.mk [] s.env s.st s.base s.lim).get x)
   | .block id body => (zN T n body s).map (ztt id)
   | .loop live objs body => (zN T n body s).bind (zpN (zN T n (.loop live objs body)) live objs)
   | .exit id live objs => (s.clear live objs).map (zDS (.exit id))
   | .scope body => zN T n (.sc body body) s
   | .sc body cur => (zN T n cur s).bind (scK (zN T n) body)
   | .label _ => some (.normal,s)
   | .goto l live objs => (s.clear live objs).map (zDS (.goto l))
   | .ret live => some (.ret,s.mkSt (clr live s.env) s.st)
def Le {α : Type} (a b : Option α) : Prop:=∀ r,a = some r → b = some r
theorem Le.refl {α : Type} (a : Option α) : Le a a:=fun _ h => h
theorem Le.bind {α β : Type} {a b : Option α} {K K' : α → Option β} (h : Le a b) (hk : ∀ x,Le (K x) (K' x)) : Le (a.bind K) (b.bind K'):=by
 intro r hr
 rw [yd] at hr ⊢
 obtain ⟨x,hx,h2⟩:=hr
 exact ⟨x,h x hx,hk x r h2⟩
theorem Le.map {α β : Type} {a b : Option α} (h : Le a b) (f : α → β) : Le (a.map f) (b.map f):=by
 intro r hr
 rw [yi] at hr ⊢
 obtain ⟨x,hx,h2⟩:=hr
 exact ⟨x,h x hx,h2⟩
def LeC (c c' : zad) : Prop:=∀ f a σ,Le (c f a σ) (c' f a σ)
theorem zwJ {c c' : zad} (h : LeC c c') (r : R) (d : D) (m : Mode) (as : List V) (v : V) : Le (znQ c r d m as v) (znQ c' r d m as v):=by
 unfold znQ
 split
 ·cases m
  ·exact ((Le.refl _).bind fun as => h _ _ _).bind fun _ => Le.refl _
  ·dsimp only
   split
   ·exact Le.refl _
   ·exact ((Le.refl _).bind fun as => h _ _ _).map _
  ·exact (h _ _ _).map _
 ·exact Le.refl _
theorem zo3 {c c' : zad} (h : LeC c c') (r : R) (d : D) (o : Op) : Le (za5 c r d o) (za5 c' r d o):=by
 cases o
 case call m f args => exact zwJ h r d m _ _
 all_goals exact Le.refl _
theorem zml {c c' : zad} (h : LeC c c') (r : R) (o : Oper) : Le (step c r o) (step c' r o):=by
 obtain ⟨d,op,g⟩:=o
 cases g with
 | none => exact zo3 h r d op
 | some g =>
   obtain ⟨x,b⟩:=g
   simp only [step]
   generalize r.get x = v
   unfold znH
   split
   ·split
    ·exact zo3 h r d op
    ·exact Le.refl _
   ·exact Le.refl _
   ·exact Le.refl _
theorem zdp {c c' : zad} (h : LeC c c') : ∀ (os : List Oper) (r : R),Le (steps c os r) (steps c' os r)
 | [],_ => Le.refl _
 | o :: os,r => (zml h r o).bind fun x => zdp h os x
theorem zil {c c' : zad} (h : LeC c c') (ops : List Oper) (r : R) (p : Nat × Nat) (hp : zdc c ops r p = true) : zdc c' ops r p = true:=by
 unfold zdc at hp ⊢
 split at hp
 ·rename_i rj rk x h1 h2 h3
  rw [zdp h _ _ _ h1,zdp h _ _ _ h2,h3]
  exact hp
 ·cases hp
theorem ztb {c c' : zad} (h : LeC c c') (ps : List (Nat × Nat)) (ops : List Oper) (r : R) : Le (zwR c ps ops r) (zwR c' ps ops r):=by
 intro r1 h1
 unfold zwR at h1 ⊢
 rw [yd] at h1 ⊢
 obtain ⟨r2,h2,h3⟩:=h1
 refine ⟨r2,zdp h _ _ _ h2,?_⟩
 split at h3
 ·rename_i ha
  rw [if_pos (yn.2 fun p hp => zil h _ _ _ (yn.1 ha p hp))]
  exact h3
 ·cases h3
theorem zkl {T : Nat → Option Entry} {E E' : Code → St → Option (Ex × St)} (h : ∀ c s,Le (E c s) (E' c s)) : LeC (zfy T E) (zfy T E'):=by
 intro f a σ
 unfold zfy
 split
 ·split
  ·exact (h _ _).bind fun _ => Le.refl _
  ·exact Le.refl _
 ·exact Le.refl _
 ·exact Le.refl _
theorem zs3 {E E' : St → Option (Ex × St)} (h : ∀ s,Le (E s) (E' s)) (x : Ex × St) : Le (zsm E x) (zsm E' x):=by
 obtain ⟨e,s⟩:=x
 cases e <;> first | exact h s | exact Le.refl _
theorem zqv {E E' : St → Option (Ex × St)} (h : ∀ s,Le (E s) (E' s)) (lv : List Bool) (ob : Nat) (x : Ex × St) : Le (zpN E lv ob x) (zpN E' lv ob x):=by
 obtain ⟨e,s⟩:=x
 cases e <;> first | exact (Le.refl _).bind h | exact Le.refl _
theorem zwi {A A' B B' : St → Option (Ex × St)} (h : ∀ s,Le (A s) (A' s)) (h' : ∀ s,Le (B s) (B' s)) (s : St) (v : V) : Le (zsa A B s v) (zsa A' B' s v):=by
 unfold zsa
 split
 ·split
  ·exact h s
  ·exact h' s
 ·exact Le.refl _
theorem zvm {E E' : Code → St → Option (Ex × St)} (h : ∀ c s,Le (E c s) (E' c s)) (body : Code) (x : Ex × St) : Le (scK E body x) (scK E' body x):=by
 obtain ⟨e,s⟩:=x
 cases e <;> simp only [scK]
 case goto l =>
  split
  ·exact h _ _
  ·exact Le.refl _
 all_goals exact Le.refl _
theorem zqI (T : Nat → Option Entry) : ∀ (n : Nat) (c : Code) (s : St),Le (zN T n c s) (zN T (n + 1) c s)
 | 0,_,_ => fun r h => by simp [zN] at h
 | n + 1,c,s => by
   have ih:=zqI T n
   cases c <;> simp only [zN]
   case reg ops => exact (zdp (zkl ih) ops _).map _
   case regd ps ops => exact (ztb (zkl ih) ps ops _).map _
   case seq a b => exact (ih a s).bind (zs3 (ih b))
   case cond x a b => exact zwi (ih a) (ih b) s _
   case block id body => exact (ih body s).map _
   case loop lv ob body => exact (ih body s).bind (zqv (ih _) lv ob)
   case scope body => exact ih _ _
   case sc body cur => exact (ih cur s).bind (zvm ih body)
   all_goals exact Le.refl _
theorem ziD (T : Nat → Option Entry) {n m : Nat} (hnm : n ≤ m) (c : Code) (s : St) : Le (zN T n c s) (zN T m c s):=by
 induction hnm with
 | refl => exact Le.refl _
 | step _ ih => exact fun r h => zqI T _ _ _ r (ih r h)
open Classical in
noncomputable def exec (T : Nat → Option Entry) (c : Code) (s : St) : Option (Ex × St) :=
 if h : ∃ r n,zN T n c s = some r then some h.choose else none
theorem zcT {T : Nat → Option Entry} {c : Code} {s : St} {r : Ex × St} : exec T c s = some r ↔ ∃ n,zN T n c s = some r:=by
 unfold exec
 constructor
 ·intro h
  split at h
  ·rename_i hx
   injection h with h
   subst h
   exact hx.choose_spec
  ·cases h
 ·rintro ⟨n,hn⟩
  have hx : ∃ r n,zN T n c s = some r:=⟨r,n,hn⟩
  rw [dif_pos hx]
  obtain ⟨m,hm⟩:=hx.choose_spec
  have h1:=ziD T (yv n m) _ _ _ hn
  have h2:=ziD T (yx n m) _ _ _ hm
  rw [h1] at h2
  exact h2.symm
noncomputable def call (T : Nat → Option Entry) : zad:=zfy T (exec T)
theorem zAC {α : Type} {a b : Option α} (h : ∀ r,a = some r ↔ b = some r) : a = b:=by
 cases a with
 | none => cases b with
   | none => rfl
   | some y => exact ((h y).2 rfl)
 | some x => exact ((h x).1 rfl).symm
theorem zrE {T : Nat → Option Entry} {f : Nat} {a : List V} {σ : zd} {r : V × zd} (h : call T f a σ = some r) : ∃ n,zfy T (zN T n) f a σ = some r:=by
 unfold call zfy at h
 unfold zfy
 split at h
 ·split at h
  ·rename_i hnp
   simp only [if_pos hnp,yd] at h ⊢
   obtain ⟨x,hx,e⟩:=h
   obtain ⟨n,hn⟩:=zcT.1 hx
   exact ⟨n,x,hn,e⟩
  ·cases h
 ·exact ⟨0,h⟩
 ·cases h
theorem zim (T : Nat → Option Entry) {n m : Nat} (h : n ≤ m) : LeC (zfy T (zN T n)) (zfy T (zN T m)):=zkl fun c s => ziD T h c s
theorem zj5 (T : Nat → Option Entry) (n : Nat) : LeC (zfy T (zN T n)) (call T):=zkl fun _ _ _ hr => zcT.2 ⟨n,hr⟩
theorem zyQ {T : Nat → Option Entry} {r : R} {d : D} {m : Mode} {as : List V} {v : V} {x : R} (hs : znQ (call T) r d m as v = some x) : ∃ n,znQ (zfy T (zN T n)) r d m as v = some x:=by
 unfold znQ at hs ⊢
 split at hs
 ·cases m
  ·simp only [yd] at hs ⊢
   obtain ⟨y,⟨as,ha,hv⟩,e⟩:=hs
   obtain ⟨n,hn⟩:=zrE hv
   exact ⟨n,y,⟨as,ha,hn⟩,e⟩
  ·dsimp only at hs ⊢
   split at hs
   ·cases hs
   ·rename_i hown
    simp only [if_neg hown,yi,yd] at hs ⊢
    obtain ⟨y,⟨as,ha,hv⟩,e⟩:=hs
    obtain ⟨n,hn⟩:=zrE hv
    exact ⟨n,y,⟨as,ha,hn⟩,e⟩
  ·simp only [yi] at hs ⊢
   obtain ⟨y,hv,e⟩:=hs
   obtain ⟨n,hn⟩:=zrE hv
   exact ⟨n,y,hn,e⟩
 ·cases hs
theorem zqu {T : Nat → Option Entry} {r : R} {d : D} {o : Op} {x : R} (hs : za5 (call T) r d o = some x) : ∃ n,za5 (zfy T (zN T n)) r d o = some x:=by
 cases o
 case call m f args => exact zyQ hs
 all_goals exact ⟨0,hs⟩
theorem zAY {T : Nat → Option Entry} {r : R} {o : Oper} {x : R} (hs : step (call T) r o = some x) : ∃ n,step (zfy T (zN T n)) r o = some x:=by
 obtain ⟨d,op,g⟩:=o
 cases g with
 | none => exact zqu hs
 | some g =>
   obtain ⟨y,b⟩:=g
   simp only [step] at hs ⊢
   generalize r.get y = v at hs ⊢
   unfold znH at hs ⊢
   split at hs
   ·split at hs
    ·rename_i h
     obtain ⟨n,hn⟩:=zqu hs
     exact ⟨n,by rw [if_pos h]; exact hn⟩
    ·rename_i h
     exact ⟨0,by rw [if_neg h]; exact hs⟩
   ·exact ⟨0,hs⟩
   ·cases hs
theorem zjN {T : Nat → Option Entry} : ∀ (os : List Oper) {r x : R},steps (call T) os r = some x → ∃ n,steps (zfy T (zN T n)) os r = some x
 | [],_,_,hs => ⟨0,hs⟩
 | o :: os,r,x,hs => by
   simp only [steps,yd] at hs ⊢
   obtain ⟨r1,h1,h2⟩:=hs
   obtain ⟨n,hn⟩:=zAY h1
   obtain ⟨m,hm⟩:=zjN os h2
   exact ⟨max n m,r1,zml (zim T (yv n m)) _ _ _ hn,zdp (zim T (yx n m)) os _ _ hm⟩
theorem zBh {T : Nat → Option Entry} (ps : List (Nat × Nat)) (os : List Oper) {r x : R} (hs : zwR (call T) ps os r = some x) : ∃ n,zwR (zfy T (zN T n)) ps os r = some x:=by
 unfold zwR at hs
 rw [yd] at hs
 obtain ⟨r2,h2,h3⟩:=hs
 split at h3
 ·rename_i ha
  injection h3 with h3
  subst h3
  obtain ⟨n,hn⟩:=zjN os h2
  have hall : ∀ ps : List (Nat × Nat),ps.all (zdc (call T) os r) = true → ∃ m,ps.all (zdc (zfy T (zN T m)) os r) = true:=by
   intro ps
   induction ps with
   | nil => exact fun _ => ⟨0,rfl⟩
   | cons p ps ih =>
     intro ha
     simp only [yG,yj] at ha
     obtain ⟨m,hm⟩:=ih ha.2
     have h1:=ha.1
     unfold zdc at h1
     split at h1
     ·rename_i rj rk x q1 q2 q3
      obtain ⟨a,ha'⟩:=zjN _ q1
      obtain ⟨b,hb'⟩:=zjN _ q2
      refine ⟨max m (max a b),?_⟩
      simp only [yG,yj]
      refine ⟨?_,yn.2 fun p hp => zil (zim T (yv m _)) _ _ _ (yn.1 hm p hp)⟩
      unfold zdc
      rw [zdp (zim T (by omega : a ≤ max m (max a b))) _ _ _ ha',zdp (zim T (by omega : b ≤ max m (max a b))) _ _ _ hb',q3]
      exact h1
     ·cases h1
  obtain ⟨m,hm⟩:=hall ps ha
  refine ⟨max n m,?_⟩
  unfold zwR
  rw [zdp (zim T (yv n m)) _ _ _ hn]
  simp only [Option.bind_some]
  rw [if_pos (yn.2 fun p hp => zil (zim T (yx n m)) _ _ _ (yn.1 hm p hp))]
 ·cases h3
section eqs
variable (T : Nat → Option Entry) (s : St)
theorem zfE {c : Code} {F : Nat → Option (Ex × St)} {L : Option (Ex × St)} (h0 : ∀ n,zN T (n + 1) c s = F n) (hL : ∀ r,L = some r ↔ ∃ n,F n = some r) : exec T c s = L:=by
 refine zAC fun r => ?_
 rw [zcT,hL]
 constructor
 ·rintro ⟨n,hn⟩
  cases n with
  | zero => simp [zN] at hn
  | succ n => exact ⟨n,by rw [← h0]; exact hn⟩
 ·rintro ⟨n,hn⟩
  exact ⟨n + 1,by rw [h0]; exact hn⟩
theorem zrD {β : Type} {c : Code} {G : Nat → Ex × St → Option β} {K : Ex × St → Option β} (hG : ∀ x n m,n ≤ m → Le (G n x) (G m x)) (hK : ∀ x r,K x = some r ↔ ∃ n,G n x = some r) (r : β) :
  (exec T c s).bind K = some r ↔ ∃ n,(zN T n c s).bind (G n) = some r:=by
 simp only [yd]
 constructor
 ·rintro ⟨x,hx,hk⟩
  obtain ⟨n,hn⟩:=zcT.1 hx
  obtain ⟨m,hm⟩:=(hK _ _).1 hk
  exact ⟨max n m,x,ziD T (yv n m) _ _ _ hn,hG _ _ _ (yx n m) _ hm⟩
 ·rintro ⟨n,x,hx,hg⟩
  exact ⟨x,zcT.2 ⟨n,hx⟩,(hK _ _).2 ⟨n,hg⟩⟩
theorem zeQ {α : Type} {L : Option α} (r : α) : L = some r ↔ ∃ _n : Nat,L = some r:=⟨fun h => ⟨0,h⟩,fun ⟨_,h⟩ => h⟩
theorem zg7 : exec T .skip s = some (.normal,s):=zfE T s (fun _ => by rw [zN]) zeQ
theorem zqK (l : Nat) : exec T (.label l) s = some (.normal,s):=zfE T s (fun _ => by rw [zN]) zeQ
theorem zzB (l : Nat) (lv : List Bool) (ob : Nat) : exec T (.goto l lv ob) s = (s.clear lv ob).map (zDS (.goto l)):=zfE T s (fun _ => by rw [zN]) zeQ
theorem zyj (l : Nat) (lv : List Bool) (ob : Nat) : exec T (.exit l lv ob) s = (s.clear lv ob).map (zDS (.exit l)):=zfE T s (fun _ => by rw [zN]) zeQ
theorem zA5 (lv : List Bool) : exec T (.ret lv) s = some (.ret,s.mkSt (clr lv s.env) s.st):=zfE T s (fun _ => by rw [zN]) zeQ
theorem zAw (ops : List Oper) : exec T (.reg ops) s = (steps (call T) ops ⟨[],s.env,s.st,s.base,s.lim⟩).map (zza s.base s.lim):=by
 refine zfE T s (fun n => by rw [zN]) fun r => ?_
 simp only [yi]
 constructor
 ·rintro ⟨x,hx,e⟩
  obtain ⟨n,hn⟩:=zjN ops hx
  exact ⟨n,x,hn,e⟩
 ·rintro ⟨n,x,hx,e⟩
  exact ⟨x,zdp (zj5 T n) ops _ _ hx,e⟩
theorem zz7 (ps : List (Nat × Nat)) (ops : List Oper) : exec T (.regd ps ops) s = (zwR (call T) ps ops ⟨[],s.env,s.st,s.base,s.lim⟩).map (zza s.base s.lim):=by
 refine zfE T s (fun n => by rw [zN]) fun r => ?_
 simp only [yi]
 constructor
 ·rintro ⟨x,hx,e⟩
  obtain ⟨n,hn⟩:=zBh ps ops hx
  exact ⟨n,x,hn,e⟩
 ·rintro ⟨n,x,hx,e⟩
  exact ⟨x,ztb (zj5 T n) ps ops _ _ hx,e⟩
theorem zgu (a b : Code) : exec T (.seq a b) s = (exec T a s).bind (zsm (exec T b)):=by
 refine zfE T s (fun n => by rw [zN]) fun r => zrD T s ?_ ?_ r
 ·exact fun x n m hnm => zs3 (fun s => ziD T hnm b s) x
 ·rintro ⟨e,s'⟩ r
  cases e <;> first | exact zcT | exact zeQ r
theorem zyU (x : X) (a b : Code) : exec T (.cond x a b) s = zsa (exec T a) (exec T b) s ((R.mk [] s.env s.st s.base s.lim).get x):=by
 refine zfE T s (fun n => by rw [zN]) fun r => ?_
 generalize (R.mk [] s.env s.st s.base s.lim).get x = v
 unfold zsa
 split
 ·rename_i t
  cases t <;> exact zcT
 ·exact zeQ r
theorem zws (id : Nat) (body : Code) : exec T (.block id body) s = (exec T body s).map (ztt id):=by
 refine zfE T s (fun n => by rw [zN]) fun r => ?_
 simp only [yi]
 constructor
 ·rintro ⟨x,hx,e⟩
  obtain ⟨n,hn⟩:=zcT.1 hx
  exact ⟨n,x,hn,e⟩
 ·rintro ⟨n,x,hx,e⟩
  exact ⟨x,zcT.2 ⟨n,hx⟩,e⟩
theorem zyp (live : List Bool) (objs : Nat) (body : Code) : exec T (.loop live objs body) s = (exec T body s).bind (zpN (exec T (.loop live objs body)) live objs):=by
 refine zfE T s (fun n => by rw [zN]) fun r => zrD T s ?_ ?_ r
 ·exact fun x n m hnm => zqv (fun s => ziD T hnm _ s) live objs x
 ·rintro ⟨e,s'⟩ r
  cases e
  case normal =>
   simp only [zpN,yd]
   constructor
   ·rintro ⟨x,hx,h⟩
    obtain ⟨n,hn⟩:=zcT.1 h
    exact ⟨n,x,hx,hn⟩
   ·rintro ⟨n,x,hx,h⟩
    exact ⟨x,hx,zcT.2 ⟨n,h⟩⟩
  all_goals exact zeQ r
theorem zmH (body : Code) : exec T (.scope body) s = exec T (.sc body body) s :=
 zfE T s (fun n => by rw [zN]) fun _ => zcT
theorem zg3 (body cur : Code) : exec T (.sc body cur) s = (exec T cur s).bind (scK (exec T) body):=by
 refine zfE T s (fun n => by rw [zN]) fun r => zrD T s ?_ ?_ r
 ·exact fun x n m hnm => zvm (fun c s => ziD T hnm c s) body x
 ·rintro ⟨e,s'⟩ r
  cases e <;> simp only [scK]
  case goto l =>
   split
   ·exact zcT
   ·exact zeQ r
  all_goals exact zeQ r
end eqs
theorem ze {T : Nat → Option Entry} {f : Nat} {fn : Fun} (h : T f = some (.fn fn)) (args : List V) (σ : zd) : call T f args σ = if args.length = fn.np then (exec T fn.body (enter fn args σ)).bind (leave fn.raw fn.results) else none:=by
 simp only [call,zfy,h]
end Go.A
namespace Go.A
def zxD : Value → Bool
 | .bool _ | .int _ _ | .float _ _ | .complex _ _ _ | .string _ | .nilFunc | .nilIface => true
 | .pointer none | .map none => true
 | _ => false
abbrev zf0:=Nat → Nat → Prop
mutual
def rep (w : World) (N : zf0) : Fz → Value → Prop
 | .lit v,u => u = v ∧ zxD v = true
 | .sl xs,u => ∃ a c sz,u = .slice a xs.length c ∧ xs.length ≤ c ∧ zbO sz xs ∧ (xs = [] ∨ ∃ b o,a = some ⟨b,o,none⟩ ∧ zfw w N sz xs b o)
def zhn (w : World) (N : zf0) : List Fz → Nat → Nat → Prop
 | [],_,_ => True
 | x :: xs,b,o => (∃ u,N b o ∧ w.cell? ⟨b,o,none⟩ = some u ∧ rep w N x u) ∧ zhn w N xs b (o + 1)
def zfw (w : World) (N : zf0) : Nat → List (List Fz) → Nat → Nat → Prop
 | _,[],_,_ => True
 | sz,e :: es,b,o => zhn w N e b o ∧ zfw w N sz es b (o + sz)
def zbO : Nat → List (List Fz) → Prop
 | _,[] => True
 | sz,e :: es => e.length = sz ∧ zbO sz es
end
def zgN (w w' : World) (N N' : zf0) : Prop:=∀ b o,N b o → N' b o ∧ w'.cell? ⟨b,o,none⟩ = w.cell? ⟨b,o,none⟩
theorem zgN.refl (w : World) (N : zf0) : zgN w w N N:=fun _ _ h => ⟨h,rfl⟩
theorem zgN.trans {w w1 w2 : World} {N N1 N2 : zf0} (h : zgN w w1 N N1) (h' : zgN w1 w2 N1 N2) : zgN w w2 N N2:=fun b o hb =>
 ⟨(h' b o (h b o hb).1).1,((h' b o (h b o hb).1).2).trans (h b o hb).2⟩
mutual
theorem zb6 {w w' : World} {N N' : zf0} (H : zgN w w' N N') : ∀ (x : Fz) (u : Value),rep w N x u → rep w' N' x u
 | .lit v,u,h => by simpa only [rep] using h
 | .sl xs,u,h => by
   simp only [rep] at h ⊢
   obtain ⟨a,c,sz,h1,h2,h3,h4⟩:=h
   refine ⟨a,c,sz,h1,h2,h3,?_⟩
   rcases h4 with h4 | ⟨b,o,h4,h5⟩
   ·exact .inl h4
   ·exact .inr ⟨b,o,h4,zno H sz xs b o h5⟩
theorem ze5 {w w' : World} {N N' : zf0} (H : zgN w w' N N') : ∀ (xs : List Fz) (b o : Nat),zhn w N xs b o → zhn w' N' xs b o
 | [],_,_,_ => by simp only [zhn]
 | x :: xs,b,o,h => by
   simp only [zhn] at h ⊢
   obtain ⟨⟨u,h1,h2,h3⟩,h4⟩:=h
   exact ⟨⟨u,(H b o h1).1,(H b o h1).2.trans h2,zb6 H x u h3⟩,ze5 H xs b (o + 1) h4⟩
theorem zno {w w' : World} {N N' : zf0} (H : zgN w w' N N') : ∀ (sz : Nat) (es : List (List Fz)) (b o : Nat),zfw w N sz es b o → zfw w' N' sz es b o
 | _,[],_,_,_ => by simp only [zfw]
 | sz,e :: es,b,o,h => by
   simp only [zfw] at h ⊢
   exact ⟨ze5 H e b o h.1,zno H sz es b (o + sz) h.2⟩
end
section
variable {w : World} {N : zf0}
theorem zbQ {sz : Nat} : ∀ {es : List (List Fz)},zbO sz es → ∀ {i : Nat} {e : List Fz},es[i]? = some e → e.length = sz
 | [],_,i,e,h => by simp at h
 | x :: xs,hl,i,e,h => by
   simp only [zbO] at hl
   cases i with
   | zero => simp at h; subst h; exact hl.1
   | succ i => exact zbQ hl.2 (by simpa using h)
theorem zdm {sz : Nat} : ∀ {es : List (List Fz)},(∀ e ∈ es,e.length = sz) → zbO sz es
 | [],_ => by simp only [zbO]
 | x :: xs,h => by
   simp only [zbO]
   exact ⟨h x (by simp),zdm fun e he => h e (by simp [he])⟩
theorem zfh {sz : Nat} {es : List (List Fz)} (h : zbO sz es) : ∀ e ∈ es,e.length = sz:=fun e he => by
 obtain ⟨i,hi⟩:=List.mem_iff_getElem?.1 he
 exact zbQ h hi
theorem zfK : ∀ {cs : List Fz} {b o : Nat},zhn w N cs b o → ∀ {j : Nat} {x : Fz},cs[j]? = some x → ∃ u,N b (o + j) ∧ w.cell? ⟨b,o + j,none⟩ = some u ∧ rep w N x u
 | [],_,_,_,j,x,h => by simp at h
 | y :: ys,b,o,hr,j,x,h => by
   simp only [zhn] at hr
   cases j with
   | zero => simp at h; subst h; exact hr.1
   | succ j =>
     have:=zfK hr.2 (j:=j) (x:=x) (by simpa using h)
     rwa [show o + (j + 1) = o + 1 + j from by omega]
theorem zf3 : ∀ {cs : List Fz} {b o : Nat},(∀ j x,cs[j]? = some x → ∃ u,N b (o + j) ∧ w.cell? ⟨b,o + j,none⟩ = some u ∧ rep w N x u) → zhn w N cs b o
 | [],_,_,_ => by simp only [zhn]
 | y :: ys,b,o,h => by
   simp only [zhn]
   refine ⟨by simpa using h 0 y (by simp),zf3 fun j x hj => ?_⟩
   have:=h (j + 1) x (by simpa using hj)
   rwa [show o + (j + 1) = o + 1 + j from by omega] at this
theorem zfd {sz : Nat} : ∀ {es : List (List Fz)} {b o : Nat},zfw w N sz es b o → ∀ {i : Nat} {e : List Fz},es[i]? = some e → zhn w N e b (o + i * sz)
 | [],_,_,_,i,e,h => by simp at h
 | y :: ys,b,o,hr,i,e,h => by
   simp only [zfw] at hr
   cases i with
   | zero => simp at h; subst h; simpa using hr.1
   | succ i =>
     have:=zfd hr.2 (i:=i) (e:=e) (by simpa using h)
     rwa [show o + (i + 1) * sz = o + sz + i * sz from by rw [yk]; omega]
theorem zeA {sz : Nat} : ∀ {es : List (List Fz)} {b o : Nat},(∀ i e,es[i]? = some e → zhn w N e b (o + i * sz)) → zfw w N sz es b o
 | [],_,_,_ => by simp only [zfw]
 | y :: ys,b,o,h => by
   simp only [zfw]
   refine ⟨by simpa using h 0 y (by simp),zeA fun i e hi => ?_⟩
   have:=h (i + 1) e (by simpa using hi)
   rwa [show o + (i + 1) * sz = o + sz + i * sz from by rw [yk]; omega] at this
end
inductive Ow where
 | no
 | ob (id : Nat)
 | tk (t k : Nat)
structure G where
 ρ : Nat → Nat
 tv : Nat → Nat → Value
 ow : Nat → Ow
 N : zf0
def Ob.shape : Ob → Option (Nat × Nat × Nat)
 | .cells ver sz es => some (ver,sz,es.length)
 | _ => none
def shapeOf (σ : zd) (id : Nat) : Option (Nat × Nat × Nat):=(σ[id]?).bind Ob.shape
def Ob.fr (k : Nat) : Ob → Option Nat
 | .tok _ fr => fr[k]?
 | _ => none
def zlw (σ : zd) (t k : Nat) : Option Nat:=(σ[t]?).bind (Ob.fr k)
def Ob.tsz : Ob → Option Nat
 | .tok sz _ => some sz
 | _ => none
def znV (σ : zd) (t : Nat) : Option Nat:=(σ[t]?).bind Ob.tsz
def zzi (w : World) (b sz len lo n : Nat) (u : Value) : Prop :=
 ∃ a c,u = .slice a n c ∧ n ≤ c ∧ (len = 0 → c = 0) ∧ (len ≠ 0 → lo + n ≤ len ∧ (c ≠ 0 → a = some ⟨b,lo * sz,none⟩) ∧ ∃ arr t,w.heap[b]? = some (.cells arr t (0,0)) ∧ (lo + c) * sz ≤ arr.size)
mutual
def zw (g : G) (w : World) (σ : zd) : C → Value → Prop
 | .f x,u => rep w g.N x u
 | .ap t k xs,u => rep w g.N (.sl xs) u ∧ ∃ n,zlw σ t k = some n ∧ xs.length ≤ n ∧ (xs.length = n → u = g.tv t k) ∧ ∃ sz,znV σ t = some sz ∧ zbO sz xs
 | .ptr id ver i off,u => ∃ ver0 sz len,shapeOf σ id = some (ver0,sz,len) ∧ ver ≤ ver0 ∧ (ver = ver0 → u = .pointer (some ⟨g.ρ id,i * sz + off,none⟩)) ∧ ∃ ad,u = .pointer (some ad)
 | .fp cs off,u => ∃ b o,u = .pointer (some ⟨b,o + off,none⟩) ∧ zhn w g.N cs b o
 | .own id ver lo n,u => ∃ ver0 sz len,shapeOf σ id = some (ver0,sz,len) ∧ ver ≤ ver0 ∧ (ver = ver0 → zzi w (g.ρ id) sz len lo n u) ∧ ∃ ad c,u = .slice ad n c
 | .map id,u => (∃ es,σ[id]? = some (.mp es)) ∧ u = .map (some (g.ρ id))
 | .fn f first caps,u => ∃ fs cs,u = .func (.func f) fs cs ∧ zv g w σ first fs.toList ∧ zv g w σ caps cs.toList
 | .un,_ => True
def zv (g : G) (w : World) (σ : zd) : List C → List Value → Prop
 | [],us => us = []
 | c :: cs,us => ∃ v vs,us = v :: vs ∧ zw g w σ c v ∧ zv g w σ cs vs
end
mutual
def zf (g : G) (w : World) (σ : zd) : V → Value → Prop
 | .one c,u => zw g w σ c u
 | .agg cs,u => ∃ us,u = .agg us ∧ zv g w σ cs us.toList
 | .tup vs,u => ∃ us,u = .tuple us ∧ zz g w σ vs us.toList
def zz (g : G) (w : World) (σ : zd) : List V → List Value → Prop
 | [],us => us = []
 | v :: vs,us => ∃ x xs,us = x :: xs ∧ zf g w σ v x ∧ zz g w σ vs xs
end
structure Ext (g : G) (w : World) (σ : zd) (g' : G) (w' : World) (σ' : zd) : Prop where
 os : w'.os = w.os
 tape : w'.tape = w.tape
 output : w'.output = w.output
 size : w.heap.size ≤ w'.heap.size
 keeps : zgN w w' g.N g'.N
 len : σ.length ≤ σ'.length
 shape : ∀ id ver sz len,shapeOf σ id = some (ver,sz,len) →
  (shapeOf σ' id = some (ver,sz,len) ∧ g'.ρ id = g.ρ id ∧ (len ≠ 0 → ∀ arr t,w.heap[g.ρ id]? = some (.cells arr t (0,0)) → ∃ arr',w'.heap[g.ρ id]? = some (.cells arr' t (0,0)) ∧ arr'.size = arr.size)) ∨
  ∃ ver1 len1,shapeOf σ' id = some (ver1,sz,len1) ∧ ver < ver1
 map : ∀ id es,σ[id]? = some (.mp es) → g'.ρ id = g.ρ id ∧ ∃ es',σ'[id]? = some (.mp es')
 tok : ∀ t k n,zlw σ t k = some n → ∃ n',zlw σ' t k = some n' ∧ n ≤ n' ∧ (n = n' → g'.tv t k = g.tv t k)
 tsz : ∀ t sz,znV σ t = some sz → znV σ' t = some sz
 ow : ∀ b,b < w.heap.size → g'.ow b = g.ow b
 new : ∀ b o,g'.N b o → b < w.heap.size → g.ow b = .no → g.N b o
 frame : ∀ b,b < w.heap.size → g.ow b = .no → w'.heap[b]? = w.heap[b]?
theorem Ext.refl (g : G) (w : World) (σ : zd) : Ext g w σ g w σ where
 os:=rfl
 tape:=rfl
 output:=rfl
 size:=yh _
 keeps:=zgN.refl _ _
 len:=yh _
 shape:=fun id ver sz len h => .inl ⟨h,rfl,fun _ arr t ha => ⟨arr,ha,rfl⟩⟩
 map:=fun id es h => ⟨rfl,es,h⟩
 tok:=fun t k n h => ⟨n,h,yh _,fun _ => rfl⟩
 tsz:=fun _ _ h => h
 ow:=fun _ _ => rfl
 new:=fun _ _ h _ _ => h
 frame:=fun _ _ _ => rfl
theorem Ext.trans {g g1 g2 : G} {w w1 w2 : World} {σ σ1 σ2 : zd} (h : Ext g w σ g1 w1 σ1) (k : Ext g1 w1 σ1 g2 w2 σ2) : Ext g w σ g2 w2 σ2 where
 os:=k.os.trans h.os
 tape:=k.tape.trans h.tape
 output:=k.output.trans h.output
 size:=yK h.size k.size
 keeps:=h.keeps.trans k.keeps
 len:=yK h.len k.len
 shape:=fun id ver sz len hs => by
  rcases h.shape id ver sz len hs with ⟨a,b,c⟩ | ⟨v1,l1,a,b⟩
  ·rcases k.shape id ver sz len a with ⟨a',b',c'⟩ | ⟨v1,l1,a',b'⟩
   ·refine .inl ⟨a',b'.trans b,fun hl arr t ha => ?_⟩
    obtain ⟨arr1,h1,h2⟩:=c hl arr t ha
    obtain ⟨arr2,h3,h4⟩:=c' hl arr1 t (by rw [b]; exact h1)
    exact ⟨arr2,by rw [← b]; exact h3,h4.trans h2⟩
   ·exact .inr ⟨v1,l1,a',b'⟩
  ·rcases k.shape id v1 sz l1 a with ⟨a',_⟩ | ⟨v2,l2,a',b'⟩
   ·exact .inr ⟨v1,l1,a',b⟩
   ·exact .inr ⟨v2,l2,a',Nat.lt_trans b b'⟩
 map:=fun id es hm => by
  obtain ⟨a,es1,b⟩:=h.map id es hm
  obtain ⟨a',es2,b'⟩:=k.map id es1 b
  exact ⟨a'.trans a,es2,b'⟩
 tok:=fun t kk n hn => by
  obtain ⟨n1,a,b,c⟩:=h.tok t kk n hn
  obtain ⟨n2,a',b',c'⟩:=k.tok t kk n1 a
  exact ⟨n2,a',yK b b',fun e => by
   have e1 : n = n1:=by omega
   have e2 : n1 = n2:=by omega
   exact (c' e2).trans (c e1)⟩
 tsz:=fun t sz ht => k.tsz t sz (h.tsz t sz ht)
 ow:=fun b hb => (k.ow b (yz hb h.size)).trans (h.ow b hb)
 new:=fun b o hn hb ho => h.new b o (k.new b o hn (yz hb h.size) ((h.ow b hb).trans ho)) hb ho
 frame:=fun b hb ho => (k.frame b (yz hb h.size) ((h.ow b hb).trans ho)).trans (h.frame b hb ho)
mutual
theorem Ext.zw {g g' : G} {w w' : World} {σ σ' : zd} (H : Ext g w σ g' w' σ') : ∀ (c : C) (u : Value),zw g w σ c u → Go.A.zw g' w' σ' c u
 | .f x,u,h => by
   simp only [Go.A.zw] at h ⊢
   exact zb6 H.keeps x u h
 | .ap t k xs,u,h => by
   simp only [Go.A.zw] at h ⊢
   obtain ⟨h1,n,h2,h3,h4,sz,h5,h6⟩:=h
   obtain ⟨n',a,b,c⟩:=H.tok t k n h2
   refine ⟨zb6 H.keeps _ u h1,n',a,by omega,fun e => ?_,sz,H.tsz t sz h5,h6⟩
   have e1 : n = n':=by omega
   rw [c e1]
   exact h4 (by omega)
 | .ptr id ver i off,u,h => by
   simp only [Go.A.zw] at h ⊢
   obtain ⟨v0,sz,len,h1,h2,h3,h4⟩:=h
   rcases H.shape id v0 sz len h1 with ⟨a,b,_⟩ | ⟨v1,l1,a,b⟩
   ·exact ⟨v0,sz,len,a,h2,by rw [b]; exact h3,h4⟩
   ·exact ⟨v1,sz,l1,a,by omega,fun e => by omega,h4⟩
 | .fp cs off,u,h => by
   simp only [Go.A.zw] at h ⊢
   obtain ⟨b,o,h1,h2⟩:=h
   exact ⟨b,o,h1,ze5 H.keeps cs b o h2⟩
 | .own id ver lo n,u,h => by
   simp only [Go.A.zw] at h ⊢
   obtain ⟨v0,sz,len,h1,h2,h3,h4⟩:=h
   rcases H.shape id v0 sz len h1 with ⟨a,b,c⟩ | ⟨v1,l1,a,b⟩
   ·refine ⟨v0,sz,len,a,h2,fun e => ?_,h4⟩
    obtain ⟨ad,cp,e1,e2,e3,e4⟩:=h3 e
    refine ⟨ad,cp,e1,e2,e3,fun hl => ?_⟩
    obtain ⟨f1,f2,arr,t,f3,f4⟩:=e4 hl
    obtain ⟨arr',g1,g2⟩:=c hl arr t f3
    exact ⟨f1,by rw [b]; exact f2,arr',t,by rw [b]; exact g1,by rw [g2]; exact f4⟩
   ·exact ⟨v1,sz,l1,a,by omega,fun e => by omega,h4⟩
 | .map id,u,h => by
   simp only [Go.A.zw] at h ⊢
   obtain ⟨⟨es,h1⟩,h2⟩:=h
   obtain ⟨a,es',b⟩:=H.map id es h1
   exact ⟨⟨es',b⟩,by rw [a]; exact h2⟩
 | .fn f a b,u,h => by
   simp only [Go.A.zw] at h ⊢
   obtain ⟨fs,cs,h1,h2,h3⟩:=h
   exact ⟨fs,cs,h1,Ext.zv H a _ h2,Ext.zv H b _ h3⟩
 | .un,_,_ => by simp only [Go.A.zw]
theorem Ext.zv {g g' : G} {w w' : World} {σ σ' : zd} (H : Ext g w σ g' w' σ') : ∀ (cs : List C) (us : List Value),zv g w σ cs us → Go.A.zv g' w' σ' cs us
 | [],us,h => by simpa only [Go.A.zv] using h
 | c :: cs,us,h => by
   simp only [Go.A.zv] at h ⊢
   obtain ⟨v,vs,h1,h2,h3⟩:=h
   exact ⟨v,vs,h1,Ext.zw H c v h2,Ext.zv H cs vs h3⟩
end
mutual
theorem Ext.zf {g g' : G} {w w' : World} {σ σ' : zd} (H : Ext g w σ g' w' σ') : ∀ (c : V) (u : Value),zf g w σ c u → Go.A.zf g' w' σ' c u
 | .one c,u,h => by
   simp only [Go.A.zf] at h ⊢
   exact H.zw c u h
 | .agg cs,u,h => by
   simp only [Go.A.zf] at h ⊢
   obtain ⟨us,h1,h2⟩:=h
   exact ⟨us,h1,H.zv cs _ h2⟩
 | .tup vs,u,h => by
   simp only [Go.A.zf] at h ⊢
   obtain ⟨us,h1,h2⟩:=h
   exact ⟨us,h1,Ext.zz H vs _ h2⟩
theorem Ext.zz {g g' : G} {w w' : World} {σ σ' : zd} (H : Ext g w σ g' w' σ') : ∀ (cs : List V) (us : List Value),zz g w σ cs us → Go.A.zz g' w' σ' cs us
 | [],us,h => by simpa only [Go.A.zz] using h
 | c :: cs,us,h => by
   simp only [Go.A.zz] at h ⊢
   obtain ⟨v,vs,h1,h2,h3⟩:=h
   exact ⟨v,vs,h1,Ext.zf H c v h2,Ext.zz H cs vs h3⟩
end
def zpX (g : G) (w : World) (σ : zd) : List (Int × V) → List MapEntry → Prop
 | [],es => es = []
 | x :: xs,es => ∃ e rest,es = e :: rest ∧ e.key = .int .i64 x.1 ∧ zf g w σ x.2 e.val ∧ zpX g w σ xs rest
def zli (g : G) (w : World) (σ : zd) (es : List (Int × V)) (zbl : List MapEntry) (clock : Nat) : Prop :=
 (∃ es',es'.Perm es ∧ (es'.map (·.1)).Nodup ∧ zpX g w σ es' zbl) ∧ (zbl.map (·.born)).Nodup ∧ ∀ e ∈ zbl,e.born < clock
def zca (g : G) (w : World) (σ : zd) (arr : Array Value) (sz : Nat) (es : List (List C)) : Prop :=
 ∀ i e,es[i]? = some e → e.length = sz ∧ ∀ j c,e[j]? = some c → ∃ u,arr[i * sz + j]? = some u ∧ zw g w σ c u ∧ u.oneCell' = true
def zAr (g : G) (w : World) (σ : zd) (id : Nat) : Ob → Prop
 | .cells _ sz es => es ≠ [] → g.ow (g.ρ id) = .ob id ∧ (∀ o,¬ g.N (g.ρ id) o) ∧ ∃ arr t,w.heap[g.ρ id]? = some (.cells arr t (0,0)) ∧ es.length * sz ≤ arr.size ∧ zca g w σ arr sz es
 | .mp es => g.ow (g.ρ id) = .ob id ∧ (∀ o,¬ g.N (g.ρ id) o) ∧ ∃ zbl clock,w.heap[g.ρ id]? = some (.map zbl clock) ∧ zli g w σ es zbl.toList clock
 | .tok sz fr => ∀ k n,fr[k]? = some n → (n = 0 ∧ ∃ a,g.tv id k = .slice a 0 0) ∨
  ∃ b o c arr t,g.tv id k = .slice (some ⟨b,o,none⟩) n c ∧ 0 < c ∧ n ≤ c ∧ g.ow b = .tk id k ∧ w.heap[b]? = some (.cells arr t (0,0)) ∧ o + c * sz ≤ arr.size ∧ ∀ o',g.N b o' → o' < o + n * sz
structure Rel (g : G) (w : World) (σ : zd) : Prop where
 nb : ∀ b o,g.N b o → b < w.heap.size
 ob : ∀ id o,σ[id]? = some o → zAr g w σ id o
theorem Ext.zca {g g' : G} {w w' : World} {σ σ' : zd} (H : Ext g w σ g' w' σ') {arr : Array Value} {sz : Nat} {es : List (List C)} (h : zca g w σ arr sz es) : Go.A.zca g' w' σ' arr sz es :=
 fun i e hi => ⟨(h i e hi).1,fun j c hj => by
  obtain ⟨u,a,b,c1⟩:=(h i e hi).2 j c hj
  exact ⟨u,a,H.zw c u b,c1⟩⟩
theorem Ext.zpX {g g' : G} {w w' : World} {σ σ' : zd} (H : Ext g w σ g' w' σ') : ∀ {es : List (Int × V)} {zbl : List MapEntry},zpX g w σ es zbl → Go.A.zpX g' w' σ' es zbl
 | [],_,h => h
 | x :: xs,_,h => by
   obtain ⟨e,rest,h1,h2,h3,h4⟩:=h
   exact ⟨e,rest,h1,h2,H.zf _ _ h3,Ext.zpX H h4⟩
theorem zxe {g : G} {w : World} {σ : zd} {es es1 : List (Int × V)} {zbl : List MapEntry} {clock : Nat} (h : es.Perm es1) (hm : zli g w σ es zbl clock) : zli g w σ es1 zbl clock:=by
 obtain ⟨⟨es',h1,h2,h3⟩,h4⟩:=hm
 exact ⟨⟨es',h1.trans h,h2,h3⟩,h4⟩
theorem zn2 {g g' : G} {w w' : World} {σ σ' : zd} {es : List (Int × V)} {zbl : List MapEntry} {clock : Nat} (h : zli g w σ es zbl clock) (f : Int × V → Int × V) (hf : ∀ e,(f e).1 = e.1) (k : ∀ es',es'.Perm es → Go.A.zpX g w σ es' zbl → Go.A.zpX g' w' σ' (es'.map f) zbl) : Go.A.zli g' w' σ' (es.map f) zbl clock:=by
 obtain ⟨⟨es',h1,h2,h3⟩,h4⟩:=h
 refine ⟨⟨es'.map f,h1.map f,?_,k es' h1 h3⟩,h4⟩
 have e : (es'.map f).map (·.1) = es'.map (·.1):=by
  rw [List.map_map]
  exact List.map_congr_left fun e _ => hf e
 rw [e]
 exact h2
theorem Ext.zli {g g' : G} {w w' : World} {σ σ' : zd} (H : Ext g w σ g' w' σ') {es : List (Int × V)} {zbl : List MapEntry} {clock : Nat} (h : zli g w σ es zbl clock) : Go.A.zli g' w' σ' es zbl clock:=by
 have:=zn2 (g':=g') (w':=w') (σ':=σ') h id (fun _ => rfl) (fun es' _ h => by rw [yQ]; exact H.zpX h)
 rwa [yQ] at this
end Go.A
namespace Go.A
def zxB {α : Type} (f : Nat → α) (k : Nat) (v : α) : Nat → α:=fun i => if i = k then v else f i
@[simp] theorem zgL {α : Type} (f : Nat → α) (k : Nat) (v : α) : zxB f k v k = v:=by simp [zxB]
theorem zaF {α : Type} (f : Nat → α) {k i : Nat} (v : α) (h : i ≠ k) : zxB f k v i = f i:=by simp [zxB,h]
theorem zaL {σ : zd} {id ver sz len : Nat} (h : shapeOf σ id = some (ver,sz,len)) : ∃ es,σ[id]? = some (.cells ver sz es) ∧ es.length = len:=by
 unfold shapeOf at h
 cases ho : σ[id]? with
 | none => simp [ho] at h
 | some o =>
   cases o with
   | cells v s es => simp [ho,Ob.shape] at h; exact ⟨es,by simp [h],h.2.2⟩
   | tok s fr => simp [ho,Ob.shape] at h
   | mp es => simp [ho,Ob.shape] at h
theorem zn {σ : zd} {id ver sz : Nat} {es : List (List C)} (h : σ[id]? = some (.cells ver sz es)) : shapeOf σ id = some (ver,sz,es.length):=by simp [shapeOf,h,Ob.shape]
theorem zcS {σ : zd} {t k n : Nat} (h : zlw σ t k = some n) : ∃ sz fr,σ[t]? = some (.tok sz fr) ∧ fr[k]? = some n:=by
 unfold zlw at h
 cases ho : σ[t]? with
 | none => simp [ho] at h
 | some o =>
   cases o with
   | cells v s es => simp [ho,Ob.fr] at h
   | tok s fr => simp [ho,Ob.fr] at h; exact ⟨s,fr,rfl,h⟩
   | mp es => simp [ho,Ob.fr] at h
theorem zdE {σ : zd} {t k n sz : Nat} {fr : List Nat} (h : σ[t]? = some (.tok sz fr)) (hn : fr[k]? = some n) : zlw σ t k = some n:=by simp [zlw,h,Ob.fr,hn]
theorem zet {σ : zd} {t sz : Nat} (h : znV σ t = some sz) : ∃ fr,σ[t]? = some (.tok sz fr):=by
 unfold znV at h
 cases ho : σ[t]? with
 | none => simp [ho] at h
 | some o =>
   cases o with
   | cells v s es => simp [ho,Ob.tsz] at h
   | tok s fr => simp [ho,Ob.tsz] at h; exact ⟨fr,by rw [h]⟩
   | mp es => simp [ho,Ob.tsz] at h
theorem zbV {σ : zd} {t sz : Nat} {fr : List Nat} (h : σ[t]? = some (.tok sz fr)) : znV σ t = some sz:=by simp [znV,h,Ob.tsz]
theorem zb {α : Type} {l : List α} {i : Nat} {x : α} (h : l[i]? = some x) : i < l.length:=(List.getElem?_eq_some_iff.1 h).1
section
variable {g g' : G} {w w' : World} {σ σ' : zd}
def ztM (g : G) (w : World) (g' : G) (w' : World) (b : Nat) : Prop:=w'.heap[b]? = w.heap[b]? ∧ g'.ow b = g.ow b ∧ ∀ o,g'.N b o → g.N b o
theorem zcM (H : Ext g w σ g' w' σ') {id : Nat} {o : Ob} (hr : g'.ρ id = g.ρ id) (ht : ∀ k,g'.tv id k = g.tv id k)
  (hb : ∀ b,b < w.heap.size → g.ow b = .ob id ∨ (∃ k,g.ow b = .tk id k) → ztM g w g' w' b) (h : zAr g w σ id o) : zAr g' w' σ' id o:=by
 cases o with
 | cells ver sz es =>
   intro hne
   obtain ⟨h1,h2,arr,t,h3,h4,h5⟩:=h hne
   have hlt : g.ρ id < w.heap.size:=(ya.1 h3).1
   obtain ⟨k1,k2,k3⟩:=hb _ hlt (.inl h1)
   rw [hr]
   exact ⟨k2.trans h1,fun o ho => h2 o (k3 o ho),arr,t,k1.trans h3,h4,H.zca h5⟩
 | mp es =>
   obtain ⟨h1,h2,zbl,clock,h3,h4⟩:=h
   have hlt : g.ρ id < w.heap.size:=(ya.1 h3).1
   obtain ⟨k1,k2,k3⟩:=hb _ hlt (.inl h1)
   unfold zAr
   rw [hr]
   exact ⟨k2.trans h1,fun o ho => h2 o (k3 o ho),zbl,clock,k1.trans h3,H.zli h4⟩
 | tok sz fr =>
   intro k n hn
   rw [ht]
   rcases h k n hn with h | ⟨b,o,c,arr,t,h1,h2,h3,h4,h5,h6,h7⟩
   ·exact .inl h
   ·have hlt : b < w.heap.size:=(ya.1 h5).1
    obtain ⟨k1,k2,k3⟩:=hb _ hlt (.inr ⟨k,h4⟩)
    exact .inr ⟨b,o,c,arr,t,h1,h2,h3,k2.trans h4,k1.trans h5,h6,fun o' ho' => h7 o' (k3 o' ho')⟩
theorem heap_alloc_old (w : World) (o : Obj) {b : Nat} (h : b < w.heap.size) : (w.alloc o).heap[b]? = w.heap[b]?:=by
 show (w.heap.push o)[b]? = _
 rw [Array.getElem?_push,if_neg (by omega)]
theorem zbg (w : World) (o : Obj) : (w.alloc o).heap[w.heap.size]? = some o:=by
 show (w.heap.push o)[w.heap.size]? = _
 simp
theorem zpS (w : World) (o : Obj) {b i : Nat} (h : b < w.heap.size) : (w.alloc o).cell? ⟨b,i,none⟩ = w.cell? ⟨b,i,none⟩:=by
 unfold World.cell?
 rw [heap_alloc_old w o h]
theorem size_alloc (w : World) (o : Obj) : (w.alloc o).heap.size = w.heap.size + 1:=World.size_alloc w o
theorem Ext.alloc (R : Rel g w σ) (o : Obj) (g' : G) (hρ : ∀ id,id < σ.length → g'.ρ id = g.ρ id) (ht : ∀ t k n,zlw σ t k = some n → g'.tv t k = g.tv t k) (hw : ∀ b,b < w.heap.size → g'.ow b = g.ow b)
  (hN : ∀ b o,b < w.heap.size → (g'.N b o ↔ g.N b o)) (os : List Ob) : Ext g w σ g' (w.alloc o) (σ ++ os) where
 os:=rfl
 tape:=rfl
 output:=rfl
 size:=by rw [size_alloc]; omega
 keeps:=fun b i h => ⟨(hN b i (R.nb b i h)).2 h,zpS w o (R.nb b i h)⟩
 len:=by simp
 shape:=fun id ver sz len h => by
  obtain ⟨es,h1,h2⟩:=zaL h
  have hlt:=zb h1
  refine .inl ⟨by unfold shapeOf; rw [yb hlt]; exact h,hρ id hlt,fun _ arr t ha => ⟨arr,?_,rfl⟩⟩
  rw [heap_alloc_old w o (ya.1 ha).1]
  exact ha
 map:=fun id es h => ⟨hρ id (zb h),es,by rw [yb (zb h)]; exact h⟩
 tok:=fun t k n h => by
  obtain ⟨sz,fr,h1,h2⟩:=zcS h
  exact ⟨n,zdE (by rw [yb (zb h1)]; exact h1) h2,yh _,fun _ => ht t k n h⟩
 tsz:=fun t sz h => by
  obtain ⟨fr,h1⟩:=zet h
  exact zbV (fr:=fr) (by rw [yb (zb h1)]; exact h1)
 ow:=hw
 new:=fun b i h hb _ => (hN b i hb).1 h
 frame:=fun b hb _ => heap_alloc_old w o hb
def G.freeze (g : G) (b : Nat) : G:={ g with N:=fun b' o => g.N b' o ∨ b' = b }
theorem zsp (R : Rel g w σ) (o : Obj) : Ext g w σ (g.freeze w.heap.size) (w.alloc o) σ ∧ Rel (g.freeze w.heap.size) (w.alloc o) σ:=by
 have hN : ∀ b i,b < w.heap.size → ((g.freeze w.heap.size).N b i ↔ g.N b i):=fun b i hb =>
  ⟨fun h => h.elim id (fun e => by omega),.inl⟩
 have H : Ext g w σ (g.freeze w.heap.size) (w.alloc o) σ:=by
  have:=Ext.alloc R o (g.freeze w.heap.size) (fun _ _ => rfl) (fun _ _ _ _ => rfl) (fun _ _ => rfl) hN []
  simpa using this
 refine ⟨H,⟨fun b i h => ?_,fun id ob h => zcM H rfl (fun _ => rfl) (fun b hb _ => ⟨heap_alloc_old w o hb,rfl,fun i => (hN b i hb).1⟩) (R.ob id ob h)⟩⟩
 rw [size_alloc]
 rcases h with h | h
 ·have:=R.nb b i h; omega
 ·omega
def G.own (g : G) (id b : Nat) : G:={ g with ρ:=zxB g.ρ id b,ow:=zxB g.ow b (.ob id) }
theorem ztq (R : Rel g w σ) (ob : Ob) (o : Obj) (hob : ∀ {g' : G} {σ' : zd},Ext g w σ g' (w.alloc o) σ' → g'.ρ σ.length = w.heap.size → g'.ow w.heap.size = .ob σ.length → (∀ i,¬ g'.N w.heap.size i) → zAr g' (w.alloc o) σ' σ.length ob) :
  Ext g w σ (g.own σ.length w.heap.size) (w.alloc o) (σ ++ [ob]) ∧ Rel (g.own σ.length w.heap.size) (w.alloc o) (σ ++ [ob]):=by
 have H : Ext g w σ (g.own σ.length w.heap.size) (w.alloc o) (σ ++ [ob]) :=
  Ext.alloc R o (g.own σ.length w.heap.size) (fun id h => zaF g.ρ (k:=σ.length) (i:=id) _ (by omega)) (fun _ _ _ _ => rfl) (fun b h => zaF g.ow (k:=w.heap.size) (i:=b) _ (by omega)) (fun _ _ _ => Iff.rfl) [ob]
 refine ⟨H,⟨fun b i h => by rw [size_alloc]; have:=R.nb b i h; omega,fun id x h => ?_⟩⟩
 by_cases hlt : id < σ.length
 ·rw [yb hlt] at h
  exact zcM H (zaF g.ρ (k:=σ.length) (i:=id) _ (by omega)) (fun _ => rfl) (fun b hb _ => ⟨heap_alloc_old w o hb,zaF g.ow (k:=w.heap.size) (i:=b) _ (by omega),fun _ h => h⟩) (R.ob id x h)
 ·have hid : id = σ.length:=by
   have:=zb h
   simp at this
   omega
  subst hid
  simp at h
  subst h
  exact hob H (by simp [G.own]) (by simp [G.own]) (fun i hn => by have:=R.nb _ i hn; omega)
theorem zxS {id j : Nat} {new : Ob} (σ : zd) : (σ.set id new)[j]? = if id = j ∧ id < σ.length then some new else σ[j]?:=by
 rw [ym]
 by_cases h : id = j
 ·subst h
  by_cases h2 : id < σ.length
  ·simp [h2]
  ·simp [h2,List.getElem?_eq_none (yp h2)]
 ·simp [h]
theorem ztv {id j : Nat} {new : Ob} (h : j ≠ id) : shapeOf (σ.set id new) j = shapeOf σ j:=by
 unfold shapeOf
 rw [ye (Ne.symm h)]
theorem zAl {id j k : Nat} {new : Ob} (h : j ≠ id) : zlw (σ.set id new) j k = zlw σ j k:=by
 unfold zlw
 rw [ye (Ne.symm h)]
theorem zy {id : Nat} {old new : Ob} (h : σ[id]? = some old) : (σ.set id new)[id]? = some new:=by
 rw [zxS]
 simp [zb h]
theorem replace {id : Nat} {old new : Ob} (R : Rel g w σ) (hid : σ[id]? = some old) (Tc : Nat → Prop)
  (hos : w'.os = w.os) (htape : w'.tape = w.tape) (hout : w'.output = w.output) (hsize : w.heap.size ≤ w'.heap.size)
  (hst : ∀ b,b < w.heap.size → ¬ Tc b → ztM g w g' w' b)
  (htc : ∀ b,Tc b → (g.ow b = .ob id ∨ ∃ k,g.ow b = .tk id k) ∧ g'.ow b = g.ow b ∧ ∀ o,g.N b o → g'.N b o ∧ w'.cell? ⟨b,o,none⟩ = w.cell? ⟨b,o,none⟩)
  (hN : ∀ b o,¬ Tc b → g.N b o → g'.N b o)
  (hρ : ∀ j,j ≠ id → g'.ρ j = g.ρ j) (htv : ∀ j k,j ≠ id → g'.tv j k = g.tv j k)
  (hnb : ∀ b o,g'.N b o → b < w'.heap.size)
  (hshape : ∀ ver sz len,shapeOf σ id = some (ver,sz,len) →
   (shapeOf (σ.set id new) id = some (ver,sz,len) ∧ g'.ρ id = g.ρ id ∧ (len ≠ 0 → ∀ arr t,w.heap[g.ρ id]? = some (.cells arr t (0,0)) → ∃ arr',w'.heap[g.ρ id]? = some (.cells arr' t (0,0)) ∧ arr'.size = arr.size)) ∨
   ∃ ver1 len1,shapeOf (σ.set id new) id = some (ver1,sz,len1) ∧ ver < ver1)
  (hmap : ∀ es,old = .mp es → g'.ρ id = g.ρ id ∧ ∃ es',new = .mp es')
  (htok : ∀ k n,zlw σ id k = some n → ∃ n',zlw (σ.set id new) id k = some n' ∧ n ≤ n' ∧ (n = n' → g'.tv id k = g.tv id k))
  (htsz : ∀ sz fr,old = .tok sz fr → ∃ fr',new = .tok sz fr')
  (horel : Ext g w σ g' w' (σ.set id new) → zAr g' w' (σ.set id new) id new) :
  Ext g w σ g' w' (σ.set id new) ∧ Rel g' w' (σ.set id new):=by
 have hcell : ∀ b o,b < w.heap.size → ¬ Tc b → w'.cell? ⟨b,o,none⟩ = w.cell? ⟨b,o,none⟩:=fun b o hb ht => by
  unfold World.cell?
  rw [(hst b hb ht).1]
 have hkeep : zgN w w' g.N g'.N:=fun b o h => by
  by_cases ht : Tc b
  ·exact (htc b ht).2.2 o h
  ·exact ⟨hN b o ht h,hcell b o (R.nb b o h) ht⟩
 have H : Ext g w σ g' w' (σ.set id new):={
  os:=hos
  tape:=htape
  output:=hout
  size:=hsize
  keeps:=hkeep
  len:=by simp
  shape:=fun j ver sz len hj => by
   by_cases e : j = id
   ·subst e; exact hshape ver sz len hj
   ·refine .inl ⟨by rw [ztv e]; exact hj,hρ j e,fun hl arr t ha => ⟨arr,?_,rfl⟩⟩
    obtain ⟨es,h1,h2⟩:=zaL hj
    have hne : es ≠ []:=fun h => by subst h; exact hl h2.symm
    obtain ⟨k1,_,arr',t',k3,_⟩:=R.ob j _ h1 hne
    have hlt : g.ρ j < w.heap.size:=(ya.1 k3).1
    have ht : ¬ Tc (g.ρ j):=fun ht => by
     rcases (htc _ ht).1 with h | ⟨k,h⟩
     ·rw [k1] at h; injection h with h; exact e h
     ·rw [k1] at h; cases h
    rw [(hst _ hlt ht).1]; exact ha
  map:=fun j es hj => by
   by_cases e : j = id
   ·subst e
    obtain ⟨a,es',b⟩:=hmap es (by rw [hid] at hj; injection hj)
    exact ⟨a,es',by rw [zy hid,b]⟩
   ·exact ⟨hρ j e,es,by rw [ye (Ne.symm e)]; exact hj⟩
  tok:=fun j k n hj => by
   by_cases e : j = id
   ·subst e; exact htok k n hj
   ·exact ⟨n,by rw [zAl e]; exact hj,yh _,fun _ => htv j k e⟩
  tsz:=fun j sz hj => by
   obtain ⟨fr,h1⟩:=zet hj
   by_cases e : j = id
   ·subst e
    rw [hid] at h1
    injection h1 with h1
    obtain ⟨fr',h2⟩:=htsz sz fr h1
    exact zbV (fr:=fr') (by rw [zy hid,h2])
   ·exact zbV (fr:=fr) (by rw [ye (Ne.symm e)]; exact h1)
  ow:=fun b hb => by
   by_cases ht : Tc b
   ·exact (htc b ht).2.1
   ·exact (hst b hb ht).2.1
  new:=fun b o h hb ho => by
   by_cases ht : Tc b
   ·rcases (htc b ht).1 with h | ⟨k,h⟩ <;> rw [ho] at h <;> cases h
   ·exact (hst b hb ht).2.2 o h
  frame:=fun b hb ho => by
   by_cases ht : Tc b
   ·rcases (htc b ht).1 with h | ⟨k,h⟩ <;> rw [ho] at h <;> cases h
   ·exact (hst b hb ht).1 }
 refine ⟨H,⟨hnb,fun j x hj => ?_⟩⟩
 by_cases e : j = id
 ·subst e
  rw [zy hid] at hj
  injection hj with hj
  subst hj
  exact horel H
 ·rw [ye (Ne.symm e)] at hj
  refine zcM H (hρ j e) (fun k => htv j k e) (fun b hb hob => hst b hb fun ht => ?_) (R.ob j x hj)
  rcases (htc b ht).1 with h | ⟨k,h⟩ <;> rcases hob with h' | ⟨k',h'⟩ <;> rw [h] at h'
  ·injection h' with h'; exact e h'.symm
  ·cases h'
  ·cases h'
  ·injection h' with h'; exact e h'.symm
end
end Go.A
namespace Go.A
def zcO (arr : Array Value) (p : Nat) (us : List Value) : Array Value:=(arr.toList.take p ++ us ++ arr.toList.drop (p + us.length)).toArray
theorem ze7 {arr : Array Value} {p : Nat} {us : List Value} (h : p + us.length ≤ arr.size) : (zcO arr p us).size = arr.size:=by
 unfold zcO
 simp
 omega
theorem zfj {arr : Array Value} {p : Nat} {us : List Value} (h : p + us.length ≤ arr.size) (q : Nat) :
  (zcO arr p us)[q]? = if q < p then arr[q]? else if q < p + us.length then us[q - p]? else arr[q]?:=by
 unfold zcO
 rw [List.getElem?_toArray,List.append_assoc,yf]
 have hp : (arr.toList.take p).length = p:=by simp; omega
 rw [hp]
 by_cases h1 : q < p
 ·rw [if_pos h1,if_pos h1,yD,if_pos h1,yq]
 ·rw [if_neg h1,if_neg h1,yf]
  by_cases h2 : q < p + us.length
  ·rw [if_pos (by omega),if_pos h2]
  ·rw [if_neg (by omega),if_neg h2,yJ,yq]
   congr 1
   omega
theorem zpf {e e' cs : List C} {off : Nat} (h : zDp e off cs = some e') : off + cs.length ≤ e.length ∧ e'.length = e.length ∧
  ∀ j,e'[j]? = if j < off then e[j]? else if j < off + cs.length then cs[j - off]? else e[j]?:=by
 unfold zDp at h
 split at h
 ·rename_i hl
  injection h with h
  subst h
  refine ⟨hl,by simp; omega,fun j => ?_⟩
  rw [yf]
  have hp : (e.take off).length = off:=by simp; omega
  rw [hp]
  by_cases h1 : j < off
  ·rw [if_pos h1,if_pos h1,yD,if_pos h1]
  ·rw [if_neg h1,if_neg h1,yf]
   by_cases h2 : j < off + cs.length
   ·rw [if_pos (by omega),if_pos h2]
   ·rw [if_neg (by omega),if_neg h2,yJ]
    congr 1
    omega
 ·cases h
theorem zC {g : G} {w : World} {σ : zd} : ∀ {cs : List C} {us : List Value},zv g w σ cs us → us.length = cs.length
 | [],us,h => by simp only [zv] at h; simp [h]
 | c :: cs,us,h => by
   simp only [zv] at h
   obtain ⟨v,vs,rfl,_,h3⟩:=h
   simp [zC h3]
theorem zdk {g : G} {w : World} {σ : zd} : ∀ {cs : List C} {us : List Value},zv g w σ cs us → ∀ {j : Nat} {c : C},cs[j]? = some c → ∃ u,us[j]? = some u ∧ zw g w σ c u
 | [],_,_,j,c,h => by simp at h
 | x :: cs,us,hr,j,c,h => by
   simp only [zv] at hr
   obtain ⟨v,vs,rfl,h2,h3⟩:=hr
   cases j with
   | zero => simp at h; subst h; exact ⟨v,by simp,h2⟩
   | succ j => simpa using zdk h3 (j:=j) (c:=c) (by simpa using h)
theorem zke {g : G} {w : World} {σ : zd} : ∀ {cs : List C} {us : List Value},us.length = cs.length → (∀ (j : Nat) (c : C) (u : Value),cs[j]? = some c → us[j]? = some u → zw g w σ c u) → zv g w σ cs us
 | [],us,hl,_ => by simp only [zv]; exact yy (by simpa using hl)
 | c :: cs,[],hl,_ => by simp at hl
 | c :: cs,v :: vs,hl,h => by
   simp only [zv]
   exact ⟨v,vs,rfl,h 0 c v (by simp) (by simp),zke (by simpa using hl) fun j c u hc hu => h (j + 1) c u (by simpa using hc) (by simpa using hu)⟩
theorem apart {i i' sz j q : Nat} (h : i ≠ i') (hj : j < sz) (hq : q < sz) : i * sz + q ≠ i' * sz + j:=by
 rcases Nat.lt_or_gt_of_ne h with h | h
 ·have : (i + 1) * sz ≤ i' * sz:=yc _ h
  rw [yk] at this
  omega
 ·have : (i' + 1) * sz ≤ i * sz:=yc _ h
  rw [yk] at this
  omega
theorem inside {i n sz q : Nat} (h : i < n) (hq : q < sz) : i * sz + q < n * sz:=by
 have : (i + 1) * sz ≤ n * sz:=yc _ h
 rw [yk] at this
 omega
theorem zy6 {i n sz q : Nat} (h : i < n) (hq : q ≤ sz) : i * sz + q ≤ n * sz:=by
 have : (i + 1) * sz ≤ n * sz:=yc _ h
 rw [yk] at this
 omega
section
variable {g : G} {w : World} {σ : zd}
theorem zul (R : Rel g w σ) {id ver sz i off : Nat} {es : List (List C)} {e e' cs : List C} {us : List Value} (hid : σ[id]? = some (.cells ver sz es)) (hi : es[i]? = some e) (ho : zDp e off cs = some e')
  (hus : zv g w σ cs us) (h1 : ∀ u ∈ us,u.oneCell' = true) :
  ∃ arr t,w.heap[g.ρ id]? = some (.cells arr t (0,0)) ∧ i * sz + off + us.length ≤ arr.size ∧
    Ext g w σ g (w.setRow (g.ρ id) (zcO arr (i * sz + off) us)) (σ.set id (.cells ver sz (es.set i e'))) ∧
    Rel g (w.setRow (g.ρ id) (zcO arr (i * sz + off) us)) (σ.set id (.cells ver sz (es.set i e'))):=by
 have hne : es ≠ []:=fun h => by subst h; simp at hi
 obtain ⟨how,hN,arr,t,hh,hsz,hrow⟩:=R.ob id _ hid hne
 obtain ⟨hov,hle,hget⟩:=zpf ho
 have hul:=zC hus
 have hel:=(hrow i e hi).1
 have hilt:=zb hi
 have hfit : i * sz + off + us.length ≤ arr.size:=by
  have:=zy6 (q:=off + us.length) hilt (by omega : off + us.length ≤ sz)
  omega
 refine ⟨arr,t,hh,hfit,?_⟩
 have hglt : g.ρ id < w.heap.size:=(ya.1 hh).1
 refine replace (g':=g) R hid (fun b => b = g.ρ id) rfl rfl rfl (by simp) (fun b hb ht => ⟨setRow_other w _ _ _ ht,rfl,fun _ h => h⟩)
  (fun b hb => ⟨.inl (by rw [hb]; exact how),rfl,fun o h => absurd (by rw [hb] at h; exact h) (hN o)⟩) (fun _ _ _ h => h) (fun _ _ => rfl) (fun _ _ _ => rfl) (fun b o h => by simpa using R.nb b o h) ?_ ?_ ?_ (fun _ _ h => by cases h) ?_
 ·intro ver' sz' len' hs
  refine .inl ⟨?_,rfl,fun _ arr0 t0 h0 => ?_⟩
  ·rw [zn hid] at hs
   injection hs with hs
   rw [zn (zy hid),← hs]
   simp
  ·rw [hh] at h0
   injection h0 with h0
   injection h0 with h0 h0t
   subst h0
   subst h0t
   exact ⟨_,setRow_heap w _ _ _ _ _ hh,ze7 hfit⟩
 ·intro es' h; cases h
 ·intro k n h; simp [zlw,hid,Ob.fr] at h
 ·intro H hne'
  refine ⟨how,hN,_,t,setRow_heap w _ _ _ _ _ hh,by rw [ze7 hfit]; simpa using hsz,fun i' x hx => ?_⟩
  rw [ym] at hx
  by_cases hii : i = i'
  ·subst hii
   simp [hilt] at hx
   subst hx
   refine ⟨hle.trans hel,fun j c hc => ?_⟩
   rw [hget] at hc
   rw [zfj hfit]
   by_cases c1 : j < off
   ·rw [if_pos c1] at hc
    obtain ⟨u,a,b,d⟩:=(hrow i e hi).2 j c hc
    exact ⟨u,by rw [if_pos (by omega)]; exact a,H.zw c u b,d⟩
   ·rw [if_neg c1] at hc
    by_cases c2 : j < off + cs.length
    ·rw [if_pos c2] at hc
     obtain ⟨u,a,b⟩:=zdk hus hc
     refine ⟨u,?_,H.zw c u b,h1 u (yr a)⟩
     rw [if_neg (by omega),if_pos (by omega),show i * sz + j - (i * sz + off) = j - off from by omega]
     exact a
    ·rw [if_neg c2] at hc
     obtain ⟨u,a,b,d⟩:=(hrow i e hi).2 j c hc
     exact ⟨u,by rw [if_neg (by omega),if_neg (by omega)]; exact a,H.zw c u b,d⟩
  ·rw [if_neg hii] at hx
   refine ⟨(hrow i' x hx).1,fun j c hc => ?_⟩
   obtain ⟨u,a,b,d⟩:=(hrow i' x hx).2 j c hc
   have hj : j < sz:=by have:=zb hc; have:=(hrow i' x hx).1; omega
   refine ⟨u,?_,H.zw c u b,d⟩
   rw [zfj hfit]
   by_cases c1 : i' * sz + j < i * sz + off
   ·rw [if_pos c1]; exact a
   ·rw [if_neg c1]
    by_cases c2 : i' * sz + j < i * sz + off + us.length
    ·exfalso
     have:=apart (q:=i' * sz + j - i * sz) hii hj (by omega)
     omega
    ·rw [if_neg c2]; exact a
def G.setTv (g : G) (t k : Nat) (u : Value) : G:={ g with tv:=fun t' k' => if t' = t ∧ k' = k then u else g.tv t' k' }
theorem G.setTv_same (g : G) (t k : Nat) (u : Value) : (g.setTv t k u).tv t k = u:=by simp [G.setTv]
theorem G.setTv_ne (g : G) {t k t' k' : Nat} (u : Value) (h : ¬ (t' = t ∧ k' = k)) : (g.setTv t k u).tv t' k' = g.tv t' k':=by simp [G.setTv,h]
theorem zvo {N : zf0} {xs : List (List Fz)} {b o c sz : Nat} (hl : zbO sz xs) (hc : xs.length ≤ c) (h : zfw w N sz xs b o) : rep w N (.sl xs) (.slice (some ⟨b,o,none⟩) xs.length c):=by
 simp only [rep]
 exact ⟨_,c,sz,rfl,hc,hl,.inr ⟨b,o,rfl,h⟩⟩
def Lay (w : World) (N : zf0) (sz : Nat) (xs : List (List Fz)) (us : List Value) : Prop :=
 us.length = xs.length * sz ∧ zbO sz xs ∧ ∀ i e,xs[i]? = some e → ∀ j x,e[j]? = some x → ∃ u,us[i * sz + j]? = some u ∧ rep w N x u ∧ u.oneCell' = true
theorem Lay.mono {w w' : World} {N N' : zf0} {sz : Nat} {xs : List (List Fz)} {us : List Value} (h : Lay w N sz xs us) (H : zgN w w' N N') : Lay w' N' sz xs us :=
 ⟨h.1,h.2.1,fun i e hi j x hj => by
  obtain ⟨u,a,b,c⟩:=h.2.2 i e hi j x hj
  exact ⟨u,a,zb6 H x u b,c⟩⟩
theorem Lay.append {N : zf0} {sz : Nat} {xs ys : List (List Fz)} {us vs : List Value} (h : Lay w N sz xs us) (k : Lay w N sz ys vs) : Lay w N sz (xs ++ ys) (us ++ vs):=by
 refine ⟨by rw [yg,yg,h.1,k.1,yk],zdm fun e he => ?_,fun i e hi j x hj => ?_⟩
 ·rcases yN.1 he with he | he
  ·exact zfh h.2.1 e he
  ·exact zfh k.2.1 e he
 ·rw [yf] at hi
  by_cases c : i < xs.length
  ·rw [if_pos c] at hi
   obtain ⟨u,a,b⟩:=h.2.2 i e hi j x hj
   refine ⟨u,?_,b⟩
   rw [yb (zb a)]
   exact a
  ·rw [if_neg c] at hi
   obtain ⟨u,a,b⟩:=k.2.2 _ e hi j x hj
   refine ⟨u,?_,b⟩
   have : i * sz + j = us.length + ((i - xs.length) * sz + j):=by
    rw [h.1,yI]
    have : xs.length * sz ≤ i * sz:=yc _ (yp c)
    omega
   rw [this,yA (by omega),yl]
   exact a
theorem zmJ {N : zf0} {xs : List (List Fz)} {u : Value} (h : rep w N (.sl xs) u) (h1 : ∀ x u,rep w N x u → u.oneCell' = true) : ∃ a c sz us,u = .slice a xs.length c ∧ xs.length ≤ c ∧ Lay w N sz xs us ∧ (xs = [] ∨ ∃ b o,a = some ⟨b,o,none⟩ ∧ ∀ j v,us[j]? = some v → w.cell? ⟨b,o + j,none⟩ = some v):=by
 simp only [rep] at h
 obtain ⟨a,c,sz,e,hc,hl,hr⟩:=h
 rcases hr with rfl | ⟨b,o,rfl,hr⟩
 ·exact ⟨a,c,sz,[],e,hc,⟨by simp,hl,fun i e h => by simp at h⟩,.inl rfl⟩
 ·refine ⟨_,c,sz,(yM (xs.length * sz)).map fun j => (w.cell? ⟨b,o + j,none⟩).getD undef,e,hc,⟨by simp,hl,fun i e hi j x hj => ?_⟩,.inr ⟨b,o,rfl,fun j v hv => ?_⟩⟩
  ·have hlt:=inside (zb hi) (by have:=zb hj; have:=zbQ hl hi; omega : j < sz)
   obtain ⟨u,k1,k2,k3⟩:=zfK (zfd hr hi) hj
   refine ⟨u,?_,k3,h1 x u k3⟩
   rw [yL,yB hlt]
   simp only [yP]
   rw [show o + (i * sz + j) = o + i * sz + j from by omega,k2]
   rfl
  ·rw [yL] at hv
   cases hj : (yM (xs.length * sz))[j]? with
   | none => rw [hj] at hv; cases hv
   | some j' =>
     have hlt:=zb hj
     simp at hlt
     rw [yB hlt] at hj
     injection hj with hj
     subst hj
     rw [yB hlt] at hv
     simp only [yP] at hv
     have hsz : 0 < sz:=by
      rcases Nat.eq_zero_or_pos sz with h0 | h0
      ·subst h0; simp at hlt
      ·exact h0
     have hi : j / sz < xs.length:=(Nat.div_lt_iff_lt_mul hsz).2 hlt
     have hj : j % sz < sz:=Nat.mod_lt _ hsz
     have hel:=zbQ hl (yt hi)
     obtain ⟨u,k1,k2,k3⟩:=zfK (zfd hr (yt hi)) (yt (by omega : j % sz < xs[j / sz].length))
     have hjj : o + j / sz * sz + j % sz = o + j:=by
      have:=Nat.div_add_mod j sz
      rw [Nat.mul_comm] at this
      omega
     rw [hjj] at k2
     rw [k2] at hv ⊢
     exact hv
theorem zla {N N' : zf0} {w' : World} {sz b o : Nat} {xs : List (List Fz)} {us : List Value} (h : Lay w N sz xs us) (H : zgN w w' N N') (hc : ∀ j v,us[j]? = some v → N' b (o + j) ∧ w'.cell? ⟨b,o + j,none⟩ = some v) : zfw w' N' sz xs b o :=
 zeA fun i e hi => zf3 fun j x hj => by
  obtain ⟨u,a,k,_⟩:=h.2.2 i e hi j x hj
  obtain ⟨c1,c2⟩:=hc _ u a
  rw [show o + (i * sz + j) = o + i * sz + j from by omega] at c1 c2
  exact ⟨u,c1,c2,zb6 H x u k⟩
end
end Go.A
namespace Go.A
section
variable {g : G} {w : World} {σ : zd}
theorem zkK {w : World} {b i : Nat} {arr arr' : Array Value} {t : TypeId} (h : w.heap[b]? = some (.cells arr t (0,0))) : (w.setRow b arr').cell? ⟨b,i,none⟩ = arr'[i]?:=cell_setRow_same w b i arr arr' t (0,0) h
theorem zg2 {w : World} {b i : Nat} {arr : Array Value} {t : TypeId} {fr : Nat × Nat} (h : w.heap[b]? = some (.cells arr t fr)) : w.cell? ⟨b,i,none⟩ = arr[i]?:=by simp [World.cell?,h]
theorem zp7 {g' : G} {w' : World} {t k n sz : Nat} {fr : List Nat} (R : Rel g w σ) (ht : σ[t]? = some (.tok sz fr)) (htv : ∀ k',k' ≠ k → g'.tv t k' = g.tv t k') (hst : ∀ b k',b < w.heap.size → g.ow b = .tk t k' → k' ≠ k → ztM g w g' w' b)
  (hk : ∀ n',(fr.set k n)[k]? = some n' → (n' = 0 ∧ ∃ a,g'.tv t k = .slice a 0 0) ∨
   ∃ b o c arr ty,g'.tv t k = .slice (some ⟨b,o,none⟩) n' c ∧ 0 < c ∧ n' ≤ c ∧ g'.ow b = .tk t k ∧ w'.heap[b]? = some (.cells arr ty (0,0)) ∧ o + c * sz ≤ arr.size ∧ ∀ o',g'.N b o' → o' < o + n' * sz) : zAr g' w' (σ.set t (.tok sz (fr.set k n))) t (.tok sz (fr.set k n)):=by
 intro k' n' h
 by_cases e : k' = k
 ·subst e; exact hk n' h
 ·rw [ye (Ne.symm e)] at h
  rw [htv k' e]
  rcases R.ob t _ ht k' n' h with h | ⟨b,o,c,arr,ty,h1,h2,h3,h4,h5,h6,h7⟩
  ·exact .inl h
  ·obtain ⟨k1,k2,k3⟩:=hst b k' (ya.1 h5).1 h4 e
   exact .inr ⟨b,o,c,arr,ty,h1,h2,h3,k2.trans h4,k1.trans h5,h6,fun o' ho' => h7 o' (k3 o' ho')⟩
theorem ziw {t k n n' sz : Nat} {fr : List Nat} (ht : σ[t]? = some (.tok sz fr)) (hn : fr[k]? = some n) : zlw (σ.set t (.tok sz (fr.set k n'))) t k = some n':=by
 refine zdE (zy ht) ?_
 rw [ym]
 simp [zb hn]
theorem zBf (R : Rel g w σ) {t k sz b o c : Nat} {fr : List Nat} {xs ys : List (List Fz)} {vs : List Value} (ht : σ[t]? = some (.tok sz fr)) (hn : fr[k]? = some xs.length) (hu : g.tv t k = .slice (some ⟨b,o,none⟩) xs.length c)
  (hx0 : 0 < xs.length + ys.length) (hx : rep w g.N (.sl xs) (.slice (some ⟨b,o,none⟩) xs.length c)) (hsx : zbO sz xs) (hy : Lay w g.N sz ys vs) (hroom : xs.length + ys.length ≤ c) :
  ∃ arr ty g',w.heap[b]? = some (.cells arr ty (0,0)) ∧ o + xs.length * sz + vs.length ≤ arr.size ∧
    Ext g w σ g' (w.setRow b (zcO arr (o + xs.length * sz) vs)) (σ.set t (.tok sz (fr.set k (xs.length + ys.length)))) ∧
    Rel g' (w.setRow b (zcO arr (o + xs.length * sz) vs)) (σ.set t (.tok sz (fr.set k (xs.length + ys.length)))) ∧
    zw g' (w.setRow b (zcO arr (o + xs.length * sz) vs)) (σ.set t (.tok sz (fr.set k (xs.length + ys.length)))) (.ap t k (xs ++ ys)) (.slice (some ⟨b,o,none⟩) (xs.length + ys.length) c):=by
 have htok:=R.ob t _ ht k _ hn
 rcases htok with ⟨h0,a0,ha0⟩ | ⟨b',o',c',arr,ty,h1,_,h3,h4,h5,h6,h7⟩
 ·rw [hu] at ha0
  injection ha0 with _ _ ha0
  omega
 rw [hu] at h1
 injection h1 with h1 _ h1c
 injection h1 with h1
 injection h1 with h1a h1b
 subst h1a h1b h1c
 have hm : (xs.length + ys.length) * sz ≤ c * sz:=yc _ hroom
 rw [yk] at hm
 have hfit : o + xs.length * sz + vs.length ≤ arr.size:=by rw [hy.1]; omega
 have hblt : b < w.heap.size:=(ya.1 h5).1
 let g' : G:={ g.setTv t k (.slice (some ⟨b,o,none⟩) (xs.length + ys.length) c) with N:=fun b1 o1 => g.N b1 o1 ∨ (b1 = b ∧ o + xs.length * sz ≤ o1 ∧ o1 < o + (xs.length + ys.length) * sz) }
 have hcell : ∀ o1,g.N b o1 → (w.setRow b (zcO arr (o + xs.length * sz) vs)).cell? ⟨b,o1,none⟩ = w.cell? ⟨b,o1,none⟩:=fun o1 h => by
  rw [zkK h5,zg2 h5,zfj hfit,if_pos (h7 o1 h)]
 have HR:=replace (g':=g') (w':=w.setRow b (zcO arr (o + xs.length * sz) vs)) (new:=.tok sz (fr.set k (xs.length + ys.length))) R ht (fun b1 => b1 = b) rfl rfl rfl (by simp)
  (fun b1 hb1 hne => ⟨setRow_other w _ _ _ hne,rfl,fun o1 h => h.elim id fun h => absurd h.1 hne⟩)
  (fun b1 hb1 => ⟨.inr ⟨k,by rw [hb1]; exact h4⟩,rfl,fun o1 h => ⟨.inl h,by subst hb1; exact hcell o1 h⟩⟩)
  (fun b1 o1 _ h => .inl h) (fun _ _ => rfl) (fun j k' hj => G.setTv_ne g _ (by simp [hj])) (fun b1 o1 h => by
   rw [setRow_size]
   rcases h with h | h
   ·exact R.nb b1 o1 h
   ·rw [h.1]; exact hblt)
  (fun ver' sz' len' hs => by simp [shapeOf,ht,Ob.shape] at hs) (fun es h => by cases h)
  (fun k' n' h => by
   by_cases e : k' = k
   ·subst e
    rw [zdE ht hn] at h
    injection h with h
    subst h
    refine ⟨_,ziw ht hn,by omega,fun e => ?_⟩
    have : ys.length = 0:=by omega
    show (g.setTv t k' _).tv t k' = _
    rw [G.setTv_same,hu,this]
    rfl
   ·obtain ⟨sz1,fr1,k1,k2⟩:=zcS h
    rw [ht] at k1
    injection k1 with k1
    injection k1 with k1 k1'
    subst k1 k1'
    exact ⟨n',zdE (zy ht) (by rw [ye (Ne.symm e)]; exact k2),yh _,fun _ => G.setTv_ne g _ (by simp [e])⟩)
  (fun _ _ h => by injection h with h _; exact ⟨_,by rw [h]⟩)
  (fun H => zp7 R ht (fun k' e => G.setTv_ne g _ (by simp [e]))
   (fun b1 k' hb1 how hk' => ⟨setRow_other w _ _ _ (fun e => by subst e; rw [h4] at how; injection how with _ how; exact hk' how.symm),rfl,fun o1 h => h.elim id fun h => by
    exfalso
    rw [h.1,h4] at how
    injection how with _ how
    exact hk' how.symm⟩)
   (fun n' hn' => by
    rw [ym] at hn'
    simp [zb hn] at hn'
    subst hn'
    exact .inr ⟨b,o,c,_,ty,G.setTv_same _ _ _ _,by omega,hroom,h4,setRow_heap w _ _ _ _ _ h5,by rw [ze7 hfit]; exact h6,fun o1 h => by
     rcases h with h | h
     ·have:=h7 o1 h
      rw [yk]
      omega
     ·exact h.2.2⟩))
 obtain ⟨HE,HR⟩:=HR
 refine ⟨arr,ty,g',h5,hfit,HE,HR,?_⟩
 simp only [zw]
 have hl : zbO sz (xs ++ ys):=zdm fun e he => by
  rcases yN.1 he with he | he
  ·exact zfh hsx e he
  ·exact zfh hy.2.1 e he
 refine ⟨?_,xs.length + ys.length,ziw ht hn,by simp,fun _ => (G.setTv_same _ _ _ _).symm,sz,zbV (zy ht),hl⟩
 have:=zvo (w:=w.setRow b (zcO arr (o + xs.length * sz) vs)) (N:=g'.N) (b:=b) (o:=o) (c:=c) hl (by simpa using hroom) (zeA fun i e hi => ?_)
 ·simpa using this
 ·rw [yf] at hi
  by_cases ci : i < xs.length
  ·rw [if_pos ci] at hi
   simp only [rep] at hx
   obtain ⟨a1,c1,sz1,e1,e2,e3,e4⟩:=hx
   rcases e4 with e4 | ⟨b1,o1,e4,e5⟩
   ·rw [e4] at ci; simp at ci
   ·injection e1 with e1 _ e1c
    rw [e4] at e1
    injection e1 with e1
    injection e1 with e1a e1b
    subst e1a e1b
    have hszz : sz1 = sz:=by rw [← zbQ e3 hi,zbQ hsx hi]
    subst hszz
    exact ze5 HE.keeps _ _ _ (zfd e5 hi)
  ·rw [if_neg ci] at hi
   refine zf3 fun j x hj => ?_
   obtain ⟨u,k1,k2,_⟩:=hy.2.2 _ e hi j x hj
   have hlt:=inside (zb hi) (by have:=zb hj; have:=zbQ hy.2.1 hi; omega : j < sz)
   have e1 : o + i * sz + j = o + xs.length * sz + ((i - xs.length) * sz + j):=by
    rw [yI]
    have : xs.length * sz ≤ i * sz:=yc _ (yp ci)
    omega
   refine ⟨u,.inr ⟨rfl,by omega,by rw [yk]; omega⟩,?_,zb6 HE.keeps x u k2⟩
   rw [zkK h5,zfj hfit,if_neg (by omega),if_pos (by rw [hy.1]; omega),e1,yl]
   exact k1
theorem drawn (R : Rel g w σ) (m : Nat) : Ext g w σ g (w.drewN m) σ ∧ Rel g (w.drewN m) σ:=by
 have H : Ext g w σ g (w.drewN m) σ:={
  os:=rfl
  tape:=rfl
  output:=rfl
  size:=yh _
  keeps:=fun _ _ h => ⟨h,rfl⟩
  len:=yh _
  shape:=fun id ver sz len h => .inl ⟨h,rfl,fun _ arr t ha => ⟨arr,ha,rfl⟩⟩
  map:=fun id es h => ⟨rfl,es,h⟩
  tok:=fun t k n h => ⟨n,h,yh _,fun _ => rfl⟩
  tsz:=fun _ _ h => h
  ow:=fun _ _ => rfl
  new:=fun _ _ h _ _ => h
  frame:=fun _ _ _ => rfl }
 exact ⟨H,⟨R.nb,fun id o h => zcM H rfl (fun _ => rfl) (fun _ _ _ => ⟨rfl,rfl,fun _ h => h⟩) (R.ob id o h)⟩⟩
theorem zBc (R : Rel g w σ) {t k sz c : Nat} {e : TypeId} {fr : List Nat} {xs ys : List (List Fz)} {us vs : List Value} {arr : Array Value} (ht : σ[t]? = some (.tok sz fr)) (hn : fr[k]? = some xs.length)
  (hx : Lay w g.N sz xs us) (hy : Lay w g.N sz ys vs) (h0 : 0 < xs.length + ys.length) (hc : xs.length + ys.length ≤ c) (harr : ∃ rest,arr.toList = us ++ vs ++ rest) (hsz : arr.size = c * sz) (hgrow : 0 < ys.length) :
  ∃ g',Ext g w σ g' (w.alloc (.cells arr e)) (σ.set t (.tok sz (fr.set k (xs.length + ys.length)))) ∧
    Rel g' (w.alloc (.cells arr e)) (σ.set t (.tok sz (fr.set k (xs.length + ys.length)))) ∧
    zw g' (w.alloc (.cells arr e)) (σ.set t (.tok sz (fr.set k (xs.length + ys.length)))) (.ap t k (xs ++ ys)) (.slice (some ⟨w.heap.size,0,none⟩) (xs.length + ys.length) c):=by
 obtain ⟨rest,harr⟩:=harr
 have hxy:=hx.append hy
 have hat:=zbg w (.cells arr e)
 let g' : G:={ g.setTv t k (.slice (some ⟨w.heap.size,0,none⟩) (xs.length + ys.length) c) with ow:=zxB g.ow w.heap.size (.tk t k),N:=fun b1 o1 => g.N b1 o1 ∨ (b1 = w.heap.size ∧ o1 < (xs.length + ys.length) * sz) }
 have how : ∀ b,b < w.heap.size → g'.ow b = g.ow b:=fun b hb => zaF g.ow (k:=w.heap.size) (i:=b) _ (by omega)
 have hst : ∀ b,b < w.heap.size → ztM g w g' (w.alloc (.cells arr e)) b:=fun b hb => ⟨heap_alloc_old w _ hb,how b hb,fun o h => h.elim id fun h => by omega⟩
 have HR:=replace (g':=g') (w':=w.alloc (.cells arr e)) (new:=.tok sz (fr.set k (xs.length + ys.length))) R ht (fun _ => False) rfl rfl rfl (by rw [size_alloc]; omega)
  (fun b hb _ => hst b hb) (fun b hb => hb.elim) (fun b1 o1 _ h => .inl h) (fun _ _ => rfl) (fun j k' hj => G.setTv_ne g _ (by simp [hj]))
  (fun b1 o1 h => by
   rw [size_alloc]
   rcases h with h | h
   ·have:=R.nb b1 o1 h; omega
   ·omega)
  (fun ver' sz' len' hs => by simp [shapeOf,ht,Ob.shape] at hs) (fun es h => by cases h)
  (fun k' n' h => by
   by_cases e : k' = k
   ·subst e
    rw [zdE ht hn] at h
    injection h with h
    subst h
    exact ⟨_,ziw ht hn,by omega,fun e => by omega⟩
   ·obtain ⟨sz1,fr1,k1,k2⟩:=zcS h
    rw [ht] at k1
    injection k1 with k1
    injection k1 with k1 k1'
    subst k1 k1'
    exact ⟨n',zdE (zy ht) (by rw [ye (Ne.symm e)]; exact k2),yh _,fun _ => G.setTv_ne g _ (by simp [e])⟩)
  (fun _ _ h => by injection h with h _; exact ⟨_,by rw [h]⟩)
  (fun H => zp7 R ht (fun k' e => G.setTv_ne g _ (by simp [e])) (fun b1 k' hb1 _ _ => hst b1 hb1)
   (fun n' hn' => by
    rw [ym] at hn'
    simp [zb hn] at hn'
    subst hn'
    refine .inr ⟨w.heap.size,0,c,arr,e,G.setTv_same _ _ _ _,by omega,hc,zgL _ _ _,hat,by rw [hsz]; omega,fun o1 h => ?_⟩
    rcases h with h | h
    ·exact absurd (R.nb _ _ h) (yO _)
    ·have:=h.2; omega))
 obtain ⟨HE,HR⟩:=HR
 refine ⟨g',HE,HR,?_⟩
 simp only [zw]
 refine ⟨?_,xs.length + ys.length,ziw ht hn,by simp,fun _ => (G.setTv_same _ _ _ _).symm,sz,zbV (zy ht),hxy.2.1⟩
 have:=zvo (w:=w.alloc (.cells arr e)) (N:=g'.N) (b:=w.heap.size) (o:=0) (c:=c) hxy.2.1 (by simpa using hc) (zla hxy HE.keeps fun j v hj => ?_)
 ·simpa using this
 ·have hlt:=zb hj
  rw [hxy.1,yg] at hlt
  refine ⟨.inr ⟨rfl,by omega⟩,?_⟩
  rw [yH,zg2 hat,← yq,harr,yb (zb hj)]
  exact hj
theorem zB8 (R : Rel g w σ) {id ver sz n c : Nat} {es ys : List (List C)} {vs : List Value} {a : Option Addr} (hid : σ[id]? = some (.cells ver sz es)) (hes : es ≠ []) (hu : zzi w (g.ρ id) sz es.length 0 n (.slice a n c))
  (hvl : vs.length = ys.length * sz) (hy : zca g w σ vs.toArray sz ys) (hroom : n + ys.length ≤ c) (h0 : 0 < n + ys.length) :
  ∃ arr ty,a = some ⟨g.ρ id,0,none⟩ ∧ w.heap[g.ρ id]? = some (.cells arr ty (0,0)) ∧ n * sz + vs.length ≤ arr.size ∧
    Ext g w σ g (w.setRow (g.ρ id) (zcO arr (n * sz) vs)) (σ.set id (.cells (ver + 1) sz (es.take n ++ ys))) ∧
    Rel g (w.setRow (g.ρ id) (zcO arr (n * sz) vs)) (σ.set id (.cells (ver + 1) sz (es.take n ++ ys))) ∧
    zw g (w.setRow (g.ρ id) (zcO arr (n * sz) vs)) (σ.set id (.cells (ver + 1) sz (es.take n ++ ys))) (.own id (ver + 1) 0 (n + ys.length)) (.slice a (n + ys.length) c):=by
 obtain ⟨a',c',e1,e2,e3,e4⟩:=hu
 injection e1 with e1 _ e1c
 subst e1 e1c
 have hlen0 : es.length ≠ 0:=fun h => hes (yy h)
 obtain ⟨f1,f2,arr,ty,f3,f4⟩:=e4 hlen0
 obtain ⟨how,hN,arr1,ty1,hh,hsz,hrow⟩:=R.ob id _ hid hes
 rw [hh] at f3
 injection f3 with f3
 injection f3 with f3 f3t
 subst f3 f3t
 have hm : (n + ys.length) * sz ≤ c * sz:=yc _ hroom
 have hfit : n * sz + vs.length ≤ arr1.size:=by rw [hvl]; rw [yk] at hm; rw [yH] at f4; omega
 have hglt : g.ρ id < w.heap.size:=(ya.1 hh).1
 have HR:=replace (g':=g) (w':=w.setRow (g.ρ id) (zcO arr1 (n * sz) vs)) (new:=.cells (ver + 1) sz (es.take n ++ ys)) R hid (fun b => b = g.ρ id) rfl rfl rfl (by simp)
  (fun b hb ht => ⟨setRow_other w _ _ _ ht,rfl,fun _ h => h⟩)
  (fun b hb => ⟨.inl (by rw [hb]; exact how),rfl,fun o h => absurd (by rw [hb] at h; exact h) (hN o)⟩) (fun _ _ _ h => h) (fun _ _ => rfl) (fun _ _ _ => rfl) (fun b o h => by simpa using R.nb b o h)
  (fun ver' sz' len' hs => by
   rw [zn hid] at hs
   injection hs with hs
   injection hs with hs1 hs2
   injection hs2 with hs2 hs3
   exact .inr ⟨ver + 1,_,by rw [zn (zy hid),hs2],by omega⟩)
  (fun es' h => by cases h) (fun k n h => by simp [zlw,hid,Ob.fr] at h)
  (fun _ _ h => by cases h) (fun H hne' => by
   refine ⟨how,hN,_,ty1,setRow_heap w _ _ _ _ _ hh,?_,fun i x hx => ?_⟩
   ·rw [ze7 hfit,yg,yw,yF (by omega)]
    rw [yH] at f4
    omega
   ·rw [yf] at hx
    have hl : (es.take n).length = n:=by rw [yw]; omega
    rw [hl] at hx
    by_cases ci : i < n
    ·rw [if_pos ci,yD,if_pos ci] at hx
     refine ⟨(hrow i x hx).1,fun j c hc => ?_⟩
     obtain ⟨u,k1,k2,k3⟩:=(hrow i x hx).2 j c hc
     have hj : j < sz:=by have:=zb hc; have:=(hrow i x hx).1; omega
     exact ⟨u,by rw [zfj hfit,if_pos (inside ci hj)]; exact k1,H.zw c u k2,k3⟩
    ·rw [if_neg ci] at hx
     refine ⟨(hy _ x hx).1,fun j c hc => ?_⟩
     obtain ⟨u,k1,k2,k3⟩:=(hy _ x hx).2 j c hc
     have hj : j < sz:=by have:=zb hc; have:=(hy _ x hx).1; omega
     have hlt:=inside (zb hx) hj
     have e1 : i * sz + j = n * sz + ((i - n) * sz + j):=by
      rw [yI]
      have : n * sz ≤ i * sz:=yc _ (yp ci)
      omega
     refine ⟨u,?_,H.zw c u k2,k3⟩
     rw [zfj hfit,if_neg (by omega),if_pos (by omega),e1,yl]
     simpa using k1)
 obtain ⟨HE,HR⟩:=HR
 refine ⟨arr1,ty1,by simpa using f2 (by omega),hh,hfit,HE,HR,?_⟩
 simp only [zw]
 refine ⟨ver + 1,sz,_,zn (zy hid),yh _,fun _ => ⟨a,c,rfl,hroom,fun h => ?_,fun _ => ⟨?_,f2,zcO arr1 (n * sz) vs,ty1,setRow_heap w _ _ _ _ _ hh,?_⟩⟩,_,_,rfl⟩
 ·rw [yg,yw,yF (by omega)] at h
  omega
 ·rw [yg,yw,yF (by omega)]
  omega
 ·rw [ze7 hfit]; exact f4
theorem zAP (R : Rel g w σ) {id ver sz n c : Nat} {e : TypeId} {es ys : List (List C)} {us vs : List Value} {arr : Array Value} (hid : σ[id]? = some (.cells ver sz es)) (hn : n ≤ es.length)
  (hul : us.length = n * sz) (hx : zca g w σ us.toArray sz (es.take n)) (hvl : vs.length = ys.length * sz) (hy : zca g w σ vs.toArray sz ys) (hc : n + ys.length ≤ c) (h0 : 0 < n + ys.length)
  (harr : ∃ rest,arr.toList = us ++ vs ++ rest) (hsz : arr.size = c * sz) :
  ∃ g',Ext g w σ g' (w.alloc (.cells arr e)) (σ.set id (.cells (ver + 1) sz (es.take n ++ ys))) ∧
    Rel g' (w.alloc (.cells arr e)) (σ.set id (.cells (ver + 1) sz (es.take n ++ ys))) ∧
    zw g' (w.alloc (.cells arr e)) (σ.set id (.cells (ver + 1) sz (es.take n ++ ys))) (.own id (ver + 1) 0 (n + ys.length)) (.slice (some ⟨w.heap.size,0,none⟩) (n + ys.length) c):=by
 obtain ⟨rest,harr⟩:=harr
 have hat:=zbg w (.cells arr e)
 have hl : (es.take n).length = n:=by rw [yw]; omega
 let g' : G:=g.own id w.heap.size
 have how : ∀ b,b < w.heap.size → g'.ow b = g.ow b:=fun b hb => zaF g.ow (k:=w.heap.size) (i:=b) _ (by omega)
 have hst : ∀ b,b < w.heap.size → ztM g w g' (w.alloc (.cells arr e)) b:=fun b hb => ⟨heap_alloc_old w _ hb,how b hb,fun o h => h⟩
 have hget : ∀ q u,(us ++ vs)[q]? = some u → arr[q]? = some u:=fun q u h => by
  rw [← yq,harr,yb (zb h)]
  exact h
 have HR:=replace (g':=g') (w':=w.alloc (.cells arr e)) (new:=.cells (ver + 1) sz (es.take n ++ ys)) R hid (fun _ => False) rfl rfl rfl (by rw [size_alloc]; omega)
  (fun b hb _ => hst b hb) (fun b hb => hb.elim) (fun b1 o1 _ h => h) (fun j hj => zaF g.ρ (k:=id) (i:=j) _ hj) (fun _ _ _ => rfl)
  (fun b1 o1 h => by rw [size_alloc]; have:=R.nb b1 o1 h; omega)
  (fun ver' sz' len' hs => by
   rw [zn hid] at hs
   injection hs with hs
   injection hs with hs1 hs2
   injection hs2 with hs2 hs3
   exact .inr ⟨ver + 1,_,by rw [zn (zy hid),hs2],by omega⟩)
  (fun es' h => by cases h) (fun k n h => by simp [zlw,hid,Ob.fr] at h)
  (fun _ _ h => by cases h) (fun H hne' => by
   refine ⟨by simp [g',G.own],fun o h => absurd (R.nb _ _ (by simpa [g',G.own] using h)) (yO _),arr,e,by simpa [g',G.own] using hat,?_,fun i x hx' => ?_⟩
   ·rw [hsz,yg,hl]
    exact yc _ hc
   ·rw [yf,hl] at hx'
    by_cases ci : i < n
    ·rw [if_pos ci] at hx'
     refine ⟨(hx i x hx').1,fun j c hc => ?_⟩
     obtain ⟨u,k1,k2,k3⟩:=(hx i x hx').2 j c hc
     refine ⟨u,hget _ u ?_,H.zw c u k2,k3⟩
     have k1' : us[i * sz + j]? = some u:=by simpa using k1
     rw [yb (zb k1')]
     exact k1'
    ·rw [if_neg ci] at hx'
     refine ⟨(hy _ x hx').1,fun j c hc => ?_⟩
     obtain ⟨u,k1,k2,k3⟩:=(hy _ x hx').2 j c hc
     refine ⟨u,hget _ u ?_,H.zw c u k2,k3⟩
     have e1 : i * sz + j = us.length + ((i - n) * sz + j):=by
      rw [hul,yI]
      have : n * sz ≤ i * sz:=yc _ (yp ci)
      omega
     rw [e1,yA (by omega),yl]
     simpa using k1)
 obtain ⟨HE,HR⟩:=HR
 refine ⟨g',HE,HR,?_⟩
 simp only [zw]
 refine ⟨ver + 1,sz,_,zn (zy hid),yh _,fun _ => ⟨_,c,rfl,hc,fun h => ?_,fun _ => ⟨?_,fun _ => by simp [g',G.own],arr,e,by simpa [g',G.own] using hat,by rw [hsz,yH]; exact yh _⟩⟩,_,_,rfl⟩
 ·rw [yg,hl] at h
  omega
 ·rw [yg,hl]
  omega
theorem map_set (R : Rel g w σ) {id clock clock' : Nat} {es es' : List (Int × V)} {zbl ents' : Array MapEntry} (hid : σ[id]? = some (.mp es)) (hh : w.heap[g.ρ id]? = some (.map zbl clock))
  (hm : ∀ {g' : G} {w' : World} {σ' : zd},Ext g w σ g' w' σ' → zli g' w' σ' es' ents'.toList clock') :
  Ext g w σ g { w with heap:=w.heap.setIfInBounds (g.ρ id) (.map ents' clock') } (σ.set id (.mp es')) ∧ Rel g { w with heap:=w.heap.setIfInBounds (g.ρ id) (.map ents' clock') } (σ.set id (.mp es')):=by
 obtain ⟨how,hN,_,_,_,_⟩:=R.ob id _ hid
 have hglt : g.ρ id < w.heap.size:=(ya.1 hh).1
 refine replace (g':=g) R hid (fun b => b = g.ρ id) rfl rfl rfl (by simp) (fun b hb ht => ⟨?_,rfl,fun _ h => h⟩)
  (fun b hb => ⟨.inl (by rw [hb]; exact how),rfl,fun o h => absurd (by rw [hb] at h; exact h) (hN o)⟩) (fun _ _ _ h => h) (fun _ _ => rfl) (fun _ _ _ => rfl) (fun b o h => by simpa using R.nb b o h)
  (fun ver' sz' len' hs => by simp [shapeOf,hid,Ob.shape] at hs) (fun es0 h => ⟨rfl,es',rfl⟩) (fun k n h => by simp [zlw,hid,Ob.fr] at h)
  (fun _ _ h => by cases h) (fun H => ⟨how,hN,ents',clock',?_,hm H⟩)
 ·simp only [yo]
  rw [if_neg (Ne.symm ht)]
 ·simp only [yo]
  simp [hglt]
end
end Go.A
namespace Go.A
def zAb : Value → Value → Bool
 | .bool a,.bool b => a == b
 | .int k a,.int k' b => decide (k = k') && decide (a = b)
 | .string a,.string b => decide (a = b)
 | .pointer none,.pointer none => true
 | .map none,.map none => true
 | .nilFunc,.nilFunc => true
 | _,_ => false
theorem ztB {u v : Value} (h : zAb u v = true) : u = v ∧ zxD v = true:=by
 unfold zAb at h
 split at h <;> simp_all [zxD]
def zu2 : Value → C → Bool
 | .slice none 0 0,.f (.sl []) => true
 | v,.f (.lit v') => zAb v v'
 | _,_ => false
def ze4 : List Value → List C → Bool
 | [],[] => true
 | v :: vs,c :: cs => zu2 v c && ze4 vs cs
 | _,_ => false
def zoR : Value → V → Bool
 | .agg us,.agg cs => ze4 us.toList cs
 | v,.one c => zu2 v c
 | _,_ => false
section
variable {g : G} {w : World} {σ : zd}
theorem znD {v : Value} {c : C} (h : zu2 v c = true) : zw g w σ c v ∧ v.oneCell' = true:=by
 unfold zu2 at h
 split at h
 ·refine ⟨?_,rfl⟩
  rw [zw,rep]
  exact ⟨none,0,0,rfl,yh _,by simp only [zbO],.inl rfl⟩
 ·obtain ⟨e,h2⟩:=ztB h
  subst e
  refine ⟨by rw [zw,rep]; exact ⟨rfl,h2⟩,?_⟩
  cases v <;> simp_all [zxD,Value.oneCell']
 ·cases h
theorem zav : ∀ {vs : List Value} {cs : List C},ze4 vs cs = true → zv g w σ cs vs ∧ ∀ v ∈ vs,v.oneCell' = true
 | [],[],_ => by simp [zv]
 | v :: vs,c :: cs,h => by
   simp only [ze4,yj] at h
   obtain ⟨h1,h2⟩:=znD (g:=g) (w:=w) (σ:=σ) h.1
   obtain ⟨h3,h4⟩:=zav h.2
   refine ⟨by simp only [zv]; exact ⟨v,vs,rfl,h1,h3⟩,fun u hu => ?_⟩
   rcases List.mem_cons.1 hu with rfl | hu
   ·exact h2
   ·exact h4 u hu
 | [],_ :: _,h => by simp [ze4] at h
 | _ :: _,[],h => by simp [ze4] at h
theorem zft {v : Value} {x : V} (h : zoR v x = true) : zf g w σ x v:=by
 unfold zoR at h
 split at h
 ·rename_i us cs
  simp only [zf]
  exact ⟨us,rfl,(zav h).1⟩
 ·simp only [zf]
  exact (znD h).1
 ·cases h
end
def okX (κ : List Tmp) (loc : List (Option Tmp)) : Operand → X → Bool
 | .tmp t,.s i => κ[i]? == some t
 | .tmp t,.l d => loc[d]? == some (some t) && (loc.take d).all (· != some t)
 | .const v,.c x => zoR v x
 | .func f,.c (.one (.fn f' [] [])) => f == f'
 | _,_ => false
structure Fr (κ : List Tmp) (loc : List (Option Tmp)) (nt : Nat) (g : G) (w : World) (r : R) (a : Act) : Prop where
 size : a.tmps.size = nt
 len : r.env.length = κ.length
 env : ∀ (i : Nat) (t : Tmp),κ[i]? = some t → zf g w r.st (r.env.getD i vun) (a.tmps.getD t undef)
 lc : ∀ (d : Nat) (t : Tmp),loc[d]? = some (some t) → (loc.take d).all (· != some t) = true → zf g w r.st (r.rs.getD d vun) (a.tmps.getD t undef)
 lk : ∀ (d : Nat) (t : Tmp),loc[d]? = some (some t) → t ∉ κ
 nd : κ.Nodup
 bd : ∀ t ∈ κ,t < nt
 df : a.defers = []
section
variable {κ : List Tmp} {loc : List (Option Tmp)} {nt : Nat} {g : G} {w : World} {r : R} {a : Act}
theorem Fr.get (F : Fr κ loc nt g w r a) {x : Operand} {y : X} (h : okX κ loc x y = true) : zf g w r.st (r.get y) (a.eval x):=by
 unfold okX at h
 split at h
 ·exact F.env _ _ (by simpa using h)
 ·simp only [yj,beq_iff_eq] at h
  exact F.lc _ _ h.1 h.2
 ·exact zft h
 ·rename_i f f'
  have e : f = f':=by simpa using h
  subst e
  simp only [R.get,Act.eval,zf,zw]
  exact ⟨_,_,rfl,by simp [zv],by simp [zv]⟩
 ·cases h
theorem Fr.ext {g' : G} {w' : World} {r' : R} (F : Fr κ loc nt g w r a) (H : Ext g w r.st g' w' r'.st) (he : r'.env = r.env) (hr : r'.rs = r.rs) : Fr κ loc nt g' w' r' a :=
 ⟨F.size,by rw [he]; exact F.len,fun i t h => by rw [he]; exact H.zf _ _ (F.env i t h),fun d t h h' => by rw [hr]; exact H.zf _ _ (F.lc d t h h'),F.lk,F.nd,F.bd,F.df⟩
def okD (κ : List Tmp) (nt : Nat) : Option Tmp → D → Bool
 | none,.no => true
 | some t,.loc => !κ.contains t && decide (t < nt)
 | some t,.slot i => κ[i]? == some t
 | _,_ => false
def zaS : Option Tmp → D → Option Tmp
 | some t,.loc => some t
 | _,_ => none
theorem zhm {ts : Array Value} {t t' : Nat} {u : Value} : (ts.setIfInBounds t u).getD t' undef = if t = t' ∧ t < ts.size then u else ts.getD t' undef:=by
 simp only [Array.getD_eq_getD_getElem?,yo]
 by_cases h : t = t'
 ·subst h
  by_cases h2 : t < ts.size <;> simp [h2]
 ·simp [h]
theorem zhK {α : Type} (x : α) (l : List α) (d : Nat) (z : α) : (x :: l).getD (d + 1) z = l.getD d z:=by simp
theorem Fr.put (F : Fr κ loc nt g w r a) {t : Option Tmp} {d : D} (h : okD κ nt t d = true) {v : V} {u : Value} (hv : d ≠ .no → zf g w r.st v u) : Fr κ (zaS t d :: loc) nt g w (r.put d v) (a.put t u):=by
 unfold okD at h
 split at h
 ·
  refine ⟨F.size,F.len,F.env,fun d' t' h1 h2 => ?_,fun d' t' h1 => ?_,F.nd,F.bd,F.df⟩
  ·cases d' with
   | zero => simp [zaS] at h1
   | succ d' =>
     simp only [R.put,zhK]
     exact F.lc d' t' (by simpa using h1) (by simpa [yu,zaS] using h2)
  ·cases d' with
   | zero => simp [zaS] at h1
   | succ d' => exact F.lk d' t' (by simpa using h1)
 ·
  rename_i t
  simp only [yj,Bool.not_eq_true',decide_eq_true_eq] at h
  have hk : t ∉ κ:=by simpa using h.1
  have ht : t < a.tmps.size:=by rw [F.size]; exact h.2
  refine ⟨by simp [Act.put,F.size],F.len,fun i t' h1 => ?_,fun d' t' h1 h2 => ?_,fun d' t' h1 => ?_,F.nd,F.bd,F.df⟩
  ·have hne : t ≠ t':=fun e => hk (by rw [e]; exact yr h1)
   simp only [Act.put,zhm,hne,false_and,if_false]
   exact F.env i t' h1
  ·cases d' with
   | zero =>
     simp [zaS] at h1
     subst h1
     simp only [Act.put,zhm,ht,and_self,if_true]
     exact hv (by simp)
   | succ d' =>
     have hne : t ≠ t':=fun e => by
      subst e
      simp [yu,zaS] at h2
     simp only [Act.put,zhm,hne,false_and,if_false,R.put,zhK]
     refine F.lc d' t' (by simpa using h1) ?_
     rw [yu,yG,yj] at h2
     exact h2.2
  ·cases d' with
   | zero => simp [zaS] at h1; subst h1; exact hk
   | succ d' => exact F.lk d' t' (by simpa using h1)
 ·
  rename_i t i
  have hi : κ[i]? = some t:=by simpa using h
  have ht : t < a.tmps.size:=by rw [F.size]; exact F.bd t (yr hi)
  have hil : i < r.env.length:=by rw [F.len]; exact zb hi
  refine ⟨by simp [Act.put,F.size],by simp [R.put,F.len],fun i' t' h1 => ?_,fun d' t' h1 h2 => ?_,fun d' t' h1 => ?_,F.nd,F.bd,F.df⟩
  ·simp only [Act.put,zhm,R.put,yC,ym]
   by_cases e : t = t'
   ·subst e
    have : i = i':=(List.getElem?_inj (zb hi) F.nd).1 (hi.trans h1.symm)
    subst this
    simp only [ht,and_self,if_true,hil,Option.getD_some]
    exact hv (by simp)
   ·have : i ≠ i':=fun e' => e (by subst e'; rw [hi] at h1; injection h1)
    simp only [e,false_and,if_false,this]
    have:=F.env i' t' h1
    rwa [yC] at this
  ·cases d' with
   | zero => simp [zaS] at h1
   | succ d' =>
     have h1' : loc[d']? = some (some t'):=by simpa using h1
     have hne : t ≠ t':=fun e => F.lk d' t' h1' (by rw [← e]; exact yr hi)
     simp only [Act.put,zhm,hne,false_and,if_false,R.put,zhK]
     refine F.lc d' t' h1' ?_
     rw [yu,yG,yj] at h2
     exact h2.2
  ·cases d' with
   | zero => simp [zaS] at h1
   | succ d' => exact F.lk d' t' (by simpa using h1)
 ·cases h
end
end Go.A
