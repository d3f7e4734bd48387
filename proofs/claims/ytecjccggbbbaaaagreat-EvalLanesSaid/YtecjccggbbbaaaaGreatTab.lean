/- A table's rows, each right. -/
import Derived.Test.YtecjccggbbbaaaaGreatDraws
set_option linter.unusedVariables false
set_option linter.unusedSimpArgs false
namespace Go.A
def FunOk (P : Program) (CD : Draws) (n : Nat) (fn : Fun) : Prop := ∃ gf κ, P.funcs[n]? = some gf ∧ (gf.name == "runtime.NumGoroutine") = false ∧ chkFun P CD κ gf fn = true
def RowOk (Q : Nat → Fun → Prop) : Nat → List (Option Fun) → Prop
  | _, [] => True
  | b, none :: r => RowOk Q (b + 1) r
  | b, some f :: r => Q b f ∧ RowOk Q (b + 1) r
def RowsOk (Q : Nat → Fun → Prop) : Nat → List (List (Option Fun)) → Prop
  | _, [] => True
  | b, r :: rs => RowOk Q b r ∧ RowsOk Q (b + 16) rs
theorem rowOk_at {Q : Nat → Fun → Prop} : ∀ (r : List (Option Fun)) (b : Nat), RowOk Q b r → ∀ (j : Nat) (f : Fun), r[j]? = some (some f) → Q (b + j) f
  | [], _, _, _, _, h => by simp at h
  | none :: r, b, hr, 0, f, h => by simp at h
  | some g :: r, b, hr, 0, f, h => by
    simp only [List.getElem?_cons_zero, Option.some.injEq] at h
    subst h
    exact hr.1
  | none :: r, b, hr, j + 1, f, h => by
    have := rowOk_at r (b + 1) hr j f (by simpa using h)
    rwa [Nat.add_assoc, Nat.add_comm 1 j] at this
  | some g :: r, b, hr, j + 1, f, h => by
    have := rowOk_at r (b + 1) hr.2 j f (by simpa using h)
    rwa [Nat.add_assoc, Nat.add_comm 1 j] at this
theorem rowsOk_at {Q : Nat → Fun → Prop} : ∀ (rs : List (List (Option Fun))) (b : Nat), RowsOk Q b rs → ∀ (i j : Nat) (r : List (Option Fun)) (f : Fun), rs[i]? = some r → r[j]? = some (some f) → Q (b + 16 * i + j) f
  | [], _, _, _, _, _, _, h, _ => by simp at h
  | x :: rs, b, hr, 0, j, r, f, h, h' => by
    simp only [List.getElem?_cons_zero, Option.some.injEq] at h
    subst h
    exact rowOk_at x b hr.1 j f h'
  | x :: rs, b, hr, i + 1, j, r, f, h, h' => by
    have := rowsOk_at rs (b + 16) hr.2 i j r f (by simpa using h) h'
    have e : b + 16 + 16 * i + j = b + 16 * (i + 1) + j := by omega
    rwa [e] at this
theorem tab_at {rows : List (List (Option Fun))} {n : Nat} {f : Fun} (h : tabOf rows n = some (.fn f)) : ∃ r, rows[n / 16]? = some r ∧ r[n % 16]? = some (some f) := by
  unfold tabOf at h
  cases hr : rows[n / 16]? with
  | none => simp [hr, entryOf] at h
  | some r =>
    refine ⟨r, rfl, ?_⟩
    rw [hr, Option.bind_some] at h
    cases hx : r[n % 16]? with
    | none => simp [hx, entryOf] at h
    | some o =>
      cases o with
      | none => simp [hx, entryOf] at h
      | some g => simpa [hx, entryOf] using h
theorem tab_noext {rows : List (List (Option Fun))} {n : Nat} {g : List V → Store → Option (V × Store)} : tabOf rows n ≠ some (.ext g) := by
  unfold tabOf entryOf
  split <;> simp
theorem tabOk_of {P : Program} {CD : Draws} {rows : List (List (Option Fun))} (h : RowsOk (FunOk P CD) 0 rows) : TabOk P CD (tabOf rows) := fun n => by
  refine ⟨fun fn hf => ?_, fun ext he => absurd he tab_noext⟩
  obtain ⟨r, h1, h2⟩ := tab_at hf
  have h3 := rowsOk_at rows 0 h (n / 16) (n % 16) r fn h1 h2
  have e : 0 + 16 * (n / 16) + n % 16 = n := by omega
  rw [e] at h3
  exact h3
theorem tabOk_if {P : Program} {CD : Draws} {k : Nat} {g : List V → Store → Option (V × Store)} {T : Nat → Option Entry}
    (hg : ∀ args σ v σ', g args σ = some (v, σ') → Enters P k ∧ ∀ gg w us, Rel gg w σ → vrels gg w σ args us → Calls P k us.toArray w fun e w' => ∃ u g', e = .returned u ∧ vrel g' w' σ' v u ∧ Rel g' w' σ' ∧ Ext gg w σ g' w' σ')
    (hT : TabOk P CD T) : TabOk P CD fun n => if n = k then some (.ext g) else T n := fun n => by
  by_cases hn : n = k
  · subst hn
    refine ⟨fun fn hf => ?_, fun ext he => ?_⟩
    · simp at hf
    · simp only [if_true, Option.some.injEq, Entry.ext.injEq] at he
      subst he
      exact hg
  · have := hT n
    simpa only [if_neg hn] using this
end Go.A
