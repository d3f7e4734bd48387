/- The checks of regions with a draw, put together. -/
import Derived.Test.YtecjccggbbbaaaaGreatSoundH
set_option linter.unusedVariables false
set_option linter.unusedSimpArgs false
namespace Go.A
def drawsOf (P : Program) : Draws := ⟨fun κ nt gops xs => chkDraw P κ nt gops xs || chkIns P κ nt gops xs, chkDraw2 P, chkCopy P⟩
theorem draws_ok {P : Program} (hm : P.follows .mixedOrders = true) : DrawOk P (drawsOf P) where
  a := fun Cf S κ nt id gops xs h r r1 h0 hs => by
    simp only [drawsOf, Bool.or_eq_true] at h
    rcases h with h | h
    · exact draws_a hm Cf S κ nt id gops xs h r r1 h0 hs
    · exact draws_ins hm Cf S κ nt id gops xs h r r1 h0 hs
  b := fun Cf S κ nt id gops ps xs h r r1 h0 hs => draws_b hm Cf S κ nt id gops ps xs h r r1 h0 hs
  lab := fun _ _ _ _ h l => copy_lab h l
  c := fun _ _ _ _ h _ _ he _ _ _ _ R0 F k => copy_sound h he R0 F k
/-- A table of functions, in rows of sixteen. -/
def entryOf : Option Fun → Option Entry
  | some f => some (.fn f)
  | none => none
def tabOf (rows : List (List (Option Fun))) (n : Nat) : Option Entry := entryOf (((rows[n / 16]?).bind (·[n % 16]?)).getD none)
end Go.A
