/- Functions of the library by contracts of their own: what they do to the machine's values. -/
import Derived.Test.YtecjccggbbbaaaaGreatDraws
import Derived.Below
set_option linter.unusedVariables false
set_option linter.unusedSimpArgs false
namespace Go.A
open Go.RowKit (Below)
/-- Whole numbers of a slice's elements. -/
def intRow : List Fz → Option Int
  | [.lit (.int .i64 x)] => some x
  | _ => none
def intRows : List (List Fz) → Option (List Int)
  | [] => some []
  | r :: rs => ocons (intRow r) (intRows rs)
def sortI (l : List Int) : List Int := l.mergeSort fun x y => decide (x ≤ y)
def compactI : List Int → List Int
  | [] => []
  | [x] => [x]
  | x :: y :: r => if x = y then compactI (y :: r) else x :: compactI (y :: r)
def cellI (x : Int) : List C := [.f (.lit (.int .i64 x))]
def elemI (x : Int) : List Fz := [.lit (.int .i64 x)]
/-- slices.Sorted of what slices.Values gives: a row of its own. -/
def sortedOf (σ : Store) (l : List Int) : Option (V × Store) :=
  if l.length ≤ LIM then some (.one (.own σ.length 0 0 l.length), σ ++ [.cells 0 1 ((sortI l).map cellI)]) else none
def sortedTo (σ : Store) : Option C → Option (V × Store)
  | some (.f (.sl xs)) => (intRows xs).bind (sortedOf σ)
  | _ => none
def extSorted (fv : Nat) : List V → Store → Option (V × Store)
  | [.one (.fn g [] [.ptr id ver i o])], σ => if g = fv ∧ o = 0 then sortedTo σ (σ.cell id ver i 0) else none
  | _, _ => none
/-- The whole numbers of a row that a slice has all of. -/
def rowInts (ver n : Nat) : Ob → Option (List Int)
  | .cells ver' sz es => if ver' = ver ∧ sz = 1 ∧ es.length = n ∧ n ≤ LIM then (frzRows es).bind intRows else none
  | _ => none
/-- slices.Sort of a row of its own. -/
def sortRow (σ : Store) (id ver : Nat) (l : List Int) : V × Store := (.tup [], σ.set id (.cells ver 1 ((sortI l).map cellI)))
def extSort : List V → Store → Option (V × Store)
  | [.one (.f (.sl []))], σ => some (.tup [], σ)
  | [.one (.own id ver 0 n)], σ => ((σ[id]?).bind (rowInts ver n)).map (sortRow σ id ver)
  | _, _ => none
/-- slices.Compact of a row of its own, which is given up for what comes back. -/
def compactRow (σ : Store) (id ver : Nat) (l : List Int) : V × Store := (vsl ((compactI l).map elemI), σ.set id (.cells (ver + 1) 1 []))
def extCompact : List V → Store → Option (V × Store)
  | [.one (.f (.sl []))], σ => some (vsl [], σ)
  | [.one (.own id ver 0 n)], σ => ((σ[id]?).bind (rowInts ver n)).map (compactRow σ id ver)
  | _, _ => none

/-- A call that leaves all as it was. -/
theorem rel_below {g : G} {w w' : World} {σ : Store} (R : Rel g w σ) (h : Below w.heap.size w w') : Ext g w σ g w' σ ∧ Rel g w' σ := by
  have H : Ext g w σ g w' σ := {
    os := h.os
    tape := h.tape
    output := h.output
    size := h.size
    keeps := fun b o hb => ⟨hb, by
      unfold World.cell?
      rw [h.block b (R.nb b o hb)]⟩
    len := Nat.le_refl _
    shape := fun id ver sz len hs => .inl ⟨hs, rfl, fun _ arr t ha => ⟨arr, by rw [h.block _ (Array.getElem?_eq_some_iff.1 ha).1]; exact ha, rfl⟩⟩
    map := fun id es he => ⟨rfl, es, he⟩
    tok := fun t k n hn => ⟨n, hn, Nat.le_refl _, fun _ => rfl⟩
    tsz := fun _ _ hs => hs
    ow := fun _ _ => rfl
    new := fun _ _ hn _ _ => hn
    frame := fun b hb _ => h.block b hb }
  exact ⟨H, fun b o hb => Nat.lt_of_lt_of_le (R.nb b o hb) h.size, fun id ob ho => orel_keep H rfl (fun _ => rfl) (fun b hb _ => ⟨h.block b hb, rfl, fun _ hn => hn⟩) (R.ob id ob ho)⟩
end Go.A

/- slices.Clone of rows of several cells, by a contract of its own. -/
namespace Go.A
/-- slices.Clone, of frozen rows: a row of its own. -/
def extCloneB (sz : Nat) : List V → Store → Option (V × Store)
  | [.one (.f (.sl xs))], σ => if xs ≠ [] ∧ okSz sz xs = true ∧ xs.length ≤ LIM then some (.one (.own σ.length 0 0 xs.length), σ ++ [.cells 0 sz (xs.map fun e => e.map C.f)]) else none
  | _, _ => none
end Go.A
