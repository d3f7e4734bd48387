/- slices.Sort and slices.Compact of a row of its own: the library's contracts, at this program. -/
import Derived.Test.YtecjccggbbbaaaaGreatRow
import Derived.Test.YtecjccggbbbaaaaGreatCompact
import Derived.Test.YtecjccggbbbaaaaGreatLay
import Derived.Test.YtecjccggbbbaaaaGreatLayC
import Derived.Test.YtecjccggbbbaaaaGreatProg
set_option linter.unusedVariables false
set_option linter.unusedSimpArgs false
namespace Go.Proofs
open Go.A Go.Sort
theorem own_nilrow {g : G} {w : World} {σ : Store} {id ver : Nat} (hid : σ[id]? = some (.cells ver 1 [])) {u : Value} (hv : vrel g w σ (.one (.own id ver 0 0)) u) : ∃ a, u = .slice a 0 0 := by
  obtain ⟨a, c, e1, e2, e3, e4⟩ := vrel_own hv hid
  exact ⟨a, by rw [e1, e3 rfl]⟩
theorem set_same {σ : Store} {id : Nat} {o : Ob} (h : σ[id]? = some o) : σ.set id o = σ := by
  apply List.ext_getElem?
  intro j
  rw [List.getElem?_set]
  by_cases e : id = j
  · subst e
    rw [if_pos rfl, if_pos (List.getElem?_eq_some_iff.1 h).1, h]
  · rw [if_neg e]
theorem Tryz.ext_sort (args : List V) (σ : Store) (v : V) (σ' : Store) (h : extSort args σ = some (v, σ')) :
    Go.A.Enters Tryz.prog 192 ∧ ∀ g w us, Rel g w σ → vrels g w σ args us → Calls Tryz.prog 192 us.toArray w fun e w' => ∃ u g', e = .returned u ∧ vrel g' w' σ' v u ∧ Rel g' w' σ' ∧ Ext g w σ g' w' σ' := by
  refine ⟨⟨Tryz.f192, _, Tryz.func192, by kernel_rfl, rfl⟩, fun g w us R0 hv => ?_⟩
  have htup : ∀ (g : G) (w : World) (σ : Store), vrel g w σ (.tup []) (.tuple #[]) := fun g w σ => by simp only [vrel]; exact ⟨#[], rfl, by simp only [vrels]⟩
  unfold extSort at h
  split at h
  · injection h with h
    simp only [Prod.mk.injEq] at h
    obtain ⟨rfl, rfl⟩ := h
    simp only [vrels, vrel, crel, rep] at hv
    obtain ⟨u, rest, rfl, ⟨a, c, sz, rfl, _⟩, rfl⟩ := hv
    have hc := AnyM.slices_Sort_int_none Tryz.sort a c w
    refine Calls.mono (f := 192) hc fun e w' he => ?_
    obtain ⟨rfl, rfl⟩ := he
    exact ⟨_, g, rfl, htup _ _ _, R0, Ext.refl _ _ _⟩
  · rename_i id ver n
    rw [Option.map_eq_some_iff] at h
    obtain ⟨l, h1, h2⟩ := h
    rw [Option.bind_eq_some_iff] at h1
    obtain ⟨o, hid, h1⟩ := h1
    obtain ⟨rfl, hn, hlim⟩ := rowInts_some h1
    subst hn
    simp only [sortRow, Prod.mk.injEq] at h2
    obtain ⟨rfl, rfl⟩ := h2
    simp only [vrels] at hv
    obtain ⟨u, rest, rfl, hv, rfl⟩ := hv
    have hperm : (sortI l).length = l.length := List.length_mergeSort l
    by_cases hl : l = []
    · subst hl
      obtain ⟨a, rfl⟩ := own_nilrow hid hv
      have hc := AnyM.slices_Sort_int_none Tryz.sort a 0 w
      refine Calls.mono (f := 192) hc fun e w' he => ?_
      obtain ⟨rfl, rfl⟩ := he
      have hs : sortI [] = [] := by simp [sortI]
      rw [hs, set_same hid]
      exact ⟨_, g, rfl, htup _ _ _, R0, Ext.refl _ _ _⟩
    · obtain ⟨c, arr, t, rfl, q1, q2, q3, q4, q5, q6⟩ := row_ints R0 hid hl hv
      have hc := AnyM.slices_Sort_int Tryz.sort (g.ρ id) 0 c l w (row_holds R0 q2 q4) (Array.getElem?_eq_some_iff.1 q2).1 (by unfold LIM at hlim; omega)
      refine Calls.mono (f := 192) hc fun e w' he => ?_
      obtain ⟨rfl, q, os, rfl⟩ := he
      obtain ⟨H, R1⟩ := row_set R0 hid (l' := sortI l) hperm q2 q3 q5 q6 q os
      exact ⟨_, g, rfl, htup _ _ _, R1, H⟩
  · cases h
theorem Tryz.ext_compact (args : List V) (σ : Store) (v : V) (σ' : Store) (h : extCompact args σ = some (v, σ')) :
    Go.A.Enters Tryz.prog 166 ∧ ∀ g w us, Rel g w σ → vrels g w σ args us → Calls Tryz.prog 166 us.toArray w fun e w' => ∃ u g', e = .returned u ∧ vrel g' w' σ' v u ∧ Rel g' w' σ' ∧ Ext g w σ g' w' σ' := by
  refine ⟨⟨Tryz.f166, _, Tryz.func166, by kernel_rfl, rfl⟩, fun g w us R0 hv => ?_⟩
  have hnil : ∀ (g : G) (w : World) (σ : Store) a c, vrel g w σ (vsl []) (.slice a 0 c) := fun g w σ a c => by
    simp only [vsl, vrel, crel, rep]
    exact ⟨a, c, 0, rfl, by simp, by simp only [lenAll], by simp⟩
  unfold extCompact at h
  split at h
  · injection h with h
    simp only [Prod.mk.injEq] at h
    obtain ⟨rfl, rfl⟩ := h
    simp only [vrels, vrel, crel, rep] at hv
    obtain ⟨u, rest, rfl, ⟨a, c, sz, rfl, _⟩, rfl⟩ := hv
    have hc := AnyG.slices_Compact_int_empty Tryz.compact a c w
    refine Calls.mono (f := 166) hc fun e w' he => ?_
    obtain ⟨rfl, rfl⟩ := he
    exact ⟨_, g, rfl, hnil _ _ _ _ _, R0, Ext.refl _ _ _⟩
  · rename_i id ver n
    rw [Option.map_eq_some_iff] at h
    obtain ⟨l, h1, h2⟩ := h
    rw [Option.bind_eq_some_iff] at h1
    obtain ⟨o, hid, h1⟩ := h1
    obtain ⟨rfl, hn, hlim⟩ := rowInts_some h1
    subst hn
    simp only [compactRow, Prod.mk.injEq] at h2
    obtain ⟨rfl, rfl⟩ := h2
    simp only [vrels] at hv
    obtain ⟨u, rest, rfl, hv, rfl⟩ := hv
    by_cases hl : l = []
    · subst hl
      obtain ⟨a, rfl⟩ := own_nilrow hid hv
      have hc := AnyG.slices_Compact_int_empty Tryz.compact a 0 w
      refine Calls.mono (f := 166) hc fun e w' he => ?_
      obtain ⟨rfl, rfl⟩ := he
      obtain ⟨H, R1⟩ := replace (g' := g) (w' := w') (new := .cells (ver + 1) 1 []) R0 hid (fun _ => False) rfl rfl rfl (Nat.le_refl _) (fun b _ _ => ⟨rfl, rfl, fun _ h => h⟩) (fun b hb => hb.elim) (fun _ _ _ h => h) (fun _ _ => rfl) (fun _ _ _ => rfl) (fun b o h => R0.nb b o h)
        (fun ver' sz' len' hs => by
          rw [shapeOf_of hid] at hs
          injection hs with hs
          injection hs with h1 h2
          injection h2 with h2 h3
          subst h1 h2
          exact .inr ⟨ver + 1, 0, by rw [shapeOf_of (get_set_same hid)]; rfl, by omega⟩)
        (fun es' h => by cases h) (fun k n h => by simp [frOf, hid, Ob.fr] at h) (fun _ _ h => by cases h) (fun H hne => absurd rfl hne)
      exact ⟨_, g, rfl, hnil _ _ _ _ _, R1, H⟩
    · obtain ⟨c, arr, t, rfl, q1, q2, q3, q4, q5, q6⟩ := row_ints R0 hid hl hv
      have hc := AnyG.slices_Compact_int Tryz.compact (g.ρ id) 0 c l w (row_holds R0 q2 q4) (by unfold LIM at hlim; omega) q1
      rw [compact_eq] at hc
      refine Calls.mono (f := 166) hc fun e w' he => ?_
      obtain ⟨rfl, q, rfl⟩ := he
      have hle := compactI_le l
      obtain ⟨H, R1⟩ := row_give R0 hid (d := (compactI l ++ List.replicate (l.length - (compactI l).length) 0).toArray) q2 q5 q6 q #[]
      have hh := heap_put (w := w) (q := q) (os := #[]) (d := (compactI l ++ List.replicate (l.length - (compactI l).length) 0).toArray) q2
      rw [grow_empty] at H R1 hh
      refine ⟨_, g.give (g.ρ id), rfl, ?_, R1, H⟩
      simp only [vsl, vrel, crel, rep, List.length_map]
      refine ⟨_, c, 1, rfl, by omega, lenAll_of (fun e he => by obtain ⟨x, _, rfl⟩ := List.mem_map.1 he; rfl), .inr ⟨g.ρ id, 0, rfl, repRows_of fun i e he => repRow_of fun j x hj => ?_⟩⟩
      rw [List.getElem?_map, Option.map_eq_some_iff] at he
      obtain ⟨y, hy, rfl⟩ := he
      cases j with
      | succ j => simp [elemI] at hj
      | zero =>
        simp [elemI] at hj
        subst hj
        have hi : i < (compactI l).length := (List.getElem?_eq_some_iff.1 hy).1
        refine ⟨.int .i64 y, .inr rfl, ?_, by simp [rep, scal]⟩
        rw [cell_at hh, Nat.zero_add, Nat.mul_one, Nat.add_zero, putCells_get (by simp; omega) (by simp; omega)]
        have := (List.getElem?_eq_some_iff.1 hy).2
        simp [List.getElem_append_left hi, this]
  · cases h
end Go.Proofs
