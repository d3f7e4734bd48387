/- Functions of the library by contracts of their own: what they do to the machine's values. -/
import Derived.Test.YtafckkajjloleaaGreatDraws
import Derived.Below
set_option linter.unusedVariables false
set_option linter.unusedSimpArgs false
namespace Go.A
open Go.RowKit (Below)
/-- slices.Sorted of what slices.Values gives, at the slice without elements. -/
def sortedTo : Option C → Store → Option (V × Store)
  | some (.f (.sl [])), σ => some (vsl [], σ)
  | _, _ => none
def extSorted (fv : Nat) : List V → Store → Option (V × Store)
  | [.one (.fn g [] [.ptr id ver i o])], σ => if g = fv ∧ o = 0 then sortedTo (σ.cell id ver i 0) σ else none
  | _, _ => none
/-- slices.Sort at the slice without elements. -/
def extSort : List V → Store → Option (V × Store)
  | [.one (.f (.sl []))], σ => some (.tup [], σ)
  | _, _ => none

/-- A call that leaves all as it was. -/
theorem rel_below {g : G} {w w' : World} {σ : Store} (R : Rel g w σ) (h : Below w.heap.size w w') : Ext g w σ g w' σ ∧ Rel g w' σ := by
  have H : Ext g w σ g w' σ := {
    os := h.os
    tape := h.tape
    output := h.output
    size := h.size
    keeps := fun b o hb => ⟨hb, by
      unfold World.cell?
      rw [h.block b (R.nb b o hb)]⟩
    len := Nat.le_refl _
    shape := fun id ver sz len hs => .inl ⟨hs, rfl, fun _ arr t ha => ⟨arr, by rw [h.block _ (Array.getElem?_eq_some_iff.1 ha).1]; exact ha, rfl⟩⟩
    map := fun id es he => ⟨rfl, es, he⟩
    tok := fun t k n hn => ⟨n, hn, Nat.le_refl _, fun _ => rfl⟩
    tsz := fun _ _ hs => hs
    ow := fun _ _ => rfl
    new := fun _ _ hn _ _ => hn
    frame := fun b hb _ => h.block b hb }
  exact ⟨H, fun b o hb => Nat.lt_of_lt_of_le (R.nb b o hb) h.size, fun id ob ho => orel_keep H rfl (fun _ => rfl) (fun b hb _ => ⟨h.block b hb, rfl, fun _ hn => hn⟩) (R.ob id ob ho)⟩
end Go.A
