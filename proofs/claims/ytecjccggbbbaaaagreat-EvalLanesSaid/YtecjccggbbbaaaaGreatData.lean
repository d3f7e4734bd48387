/- Data of the document's types as plain Lean values, and how they lie in the machine. -/
import Derived.Test.YtecjccggbbbaaaaGreatTable
import Derived.Test.YtecjccggbbbaaaaGreatSimp
import Derived.Test.YtecjccggbbbaaaaGreatRules
set_option linter.unusedVariables false
set_option linter.unusedSimpArgs false
namespace AC
open Go Go.A Go.A.Lex
abbrev vI (x : Int) : V := .one (.f (.lit (.int .i64 x)))
abbrev vU64 (x : Int) : V := .one (.f (.lit (.int .u64 x)))
abbrev vB (x : Bool) : V := .one (.f (.lit (.bool x)))
abbrev vL (xs : List (List Fz)) : V := .one (.f (.sl xs))
abbrev vU : V := .one .un
abbrev vFn (g : Nat) (caps : List C) : V := .one (.fn g [] caps)
abbrev ei (x : Int) : Fz := .lit (.int .i64 x)
abbrev eu (x : Int) : Fz := .lit (.int .u64 x)
/-- A list's element that is a whole number. -/
def ri (x : Int) : List Fz := [.lit (.int .i64 x)]
abbrev eI (l : List Int) : Fz := .sl (l.map ri)
abbrev vIs (l : List Int) : V := .one (.f (.sl (l.map ri)))
/-- A list's element that is a list of whole numbers. -/
def rl (l : List Int) : List Fz := [.sl (l.map ri)]
abbrev vLs (l : List (List Int)) : V := .one (.f (.sl (l.map rl)))
/-- A shape. -/
def rs (s : Int × Int) : List Fz := [.lit (.int .i64 s.1), .lit (.int .i64 s.2)]
abbrev vSs (l : List (Int × Int)) : V := .one (.f (.sl (l.map rs)))
structure POp where
  kind : Int
  bits : Int
  lanes : Int
  dst : Int
  args : List Int
  imm : Int
structure PPhi where
  bits : Int
  dst : Int
  src : List Int
  args : List Int
structure PBlock where
  phis : List PPhi
  ops : List POp
  kind : Int
  arg : Int
  to : List Int
structure PFunc where
  params : List Int
  ret : Int
  blocks : List PBlock
def ro (o : POp) : List Fz := [ei o.kind, ei o.bits, ei o.lanes, ei o.dst, eI o.args, eu o.imm]
def rp (p : PPhi) : List Fz := [ei p.bits, ei p.dst, eI p.src, eI p.args]
def rb (b : PBlock) : List Fz := [.sl (b.phis.map rp), .sl (b.ops.map ro), ei b.kind, ei b.arg, eI b.to]
abbrev cOp (o : POp) : List C := [.f (ei o.kind), .f (ei o.bits), .f (ei o.lanes), .f (ei o.dst), .f (eI o.args), .f (eu o.imm)]
abbrev cPhi (p : PPhi) : List C := [.f (ei p.bits), .f (ei p.dst), .f (eI p.src), .f (eI p.args)]
abbrev cBlock (b : PBlock) : List C := [.f (.sl (b.phis.map rp)), .f (.sl (b.ops.map ro)), .f (ei b.kind), .f (ei b.arg), .f (eI b.to)]
abbrev cFunc (f : PFunc) : List C := [.f (eI f.params), .f (ei f.ret), .f (.sl (f.blocks.map rb))]
abbrev vOp (o : POp) : V := .agg (cOp o)
abbrev vPhi (p : PPhi) : V := .agg (cPhi p)
abbrev vBlock (b : PBlock) : V := .agg (cBlock b)
abbrev vFunc (f : PFunc) : V := .agg (cFunc f)

attribute [go_sem] Int.reduceEq Int.reduceNe Int.reduceAdd Int.reduceSub Int.reduceMul Int.reduceNeg Int.reduceGT Int.reduceGE
attribute [go_sem] vI vU64 vB vL vU vFn ei eu eI vIs vLs vSs cOp cPhi cBlock cFunc vOp vPhi vBlock vFunc
theorem wrap_i64 {n : Int} (h : -9223372036854775808 ≤ n) (h' : n < 9223372036854775808) : Go.IntKind.i64.wrap n = n := by
  unfold Go.IntKind.wrap Go.IntKind.bits Go.IntKind.signed
  simp only [Bool.true_and]
  split
  · rename_i h1
    simp at h1
    omega
  · rename_i h1
    simp at h1
    omega
theorem wrap_u64 {n : Int} (h : 0 ≤ n) (h' : n < 18446744073709551616) : Go.IntKind.u64.wrap n = n := by
  unfold Go.IntKind.wrap Go.IntKind.bits Go.IntKind.signed
  simp only [Bool.false_and]
  have : (2 : Int) ^ 64 = 18446744073709551616 := by decide
  rw [this]
  split <;> first | omega | (rename_i h; simp at h)
theorem wrap_succ {k n : Nat} (h : k < n) (h' : n ≤ 4294967296) : Go.IntKind.i64.wrap ((k : Int) + 1) = ((k + 1 : Nat) : Int) := by
  rw [wrap_i64] <;> omega
theorem getr {α : Type} {r : α → List Fz} {l : List α} {k : Nat} (h : k < l.length) : (l.map r)[k]? = some (r l[k]) := by simp [h]
theorem ilt {k n : Nat} (h : k < n) : ((k : Int) < (n : Int)) = True := by simp [h]
theorem nlt (n : Nat) : ((n : Int) < (n : Int)) = False := by simp
end AC
