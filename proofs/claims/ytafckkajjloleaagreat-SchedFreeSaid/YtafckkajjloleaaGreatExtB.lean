/- slices.Clone of rows of several cells, by a contract of its own. -/
import Derived.Test.YtafckkajjloleaaGreatExt
set_option linter.unusedVariables false
set_option linter.unusedSimpArgs false
namespace Go.A
/-- slices.Clone, of frozen rows: a row of its own. -/
def extCloneB (sz : Nat) : List V → Store → Option (V × Store)
  | [.one (.f (.sl xs))], σ => if xs ≠ [] ∧ okSz sz xs = true ∧ xs.length ≤ LIM then some (.one (.own σ.length 0 0 xs.length), σ ++ [.cells 0 sz (xs.map fun e => e.map C.f)]) else none
  | _, _ => none
end Go.A
