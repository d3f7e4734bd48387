/- slices.Sorted of slices.Values: the machine's contract holds at this program. -/
import Derived.Test.YtecjccggbbbaaaaGreatSeq
set_option linter.unusedVariables false
set_option linter.unusedSimpArgs false
namespace Go.A
open Go.RowKit (Below)
section
variable {g : G} {w w' : World} {σ : Store}
/-- A row in a block of the call's own. -/
theorem row_new (R : Rel g w σ) (hB : Below w.heap.size w w') {gb : Nat} {cur : Array Value} {t : TypeId} (hgb : w'.heap[gb]? = some (.cells cur t (0, 0))) (hbase : w.heap.size ≤ gb) {l : List Int} (hl : l.length ≤ cur.size) (hc : ∀ (j : Nat) x, l[j]? = some x → cur[j]? = some (.int .i64 x)) :
    Ext g w σ (g.own σ.length gb) w' (σ ++ [.cells 0 1 (l.map cellI)]) ∧ Rel (g.own σ.length gb) w' (σ ++ [.cells 0 1 (l.map cellI)]) := by
  have hρ : ∀ id, id < σ.length → (g.own σ.length gb).ρ id = g.ρ id := fun id h => put1_ne g.ρ (k := σ.length) (i := id) _ (by omega)
  have hw : ∀ b, b < w.heap.size → (g.own σ.length gb).ow b = g.ow b := fun b h => put1_ne g.ow (k := gb) (i := b) _ (by omega)
  have H : Ext g w σ (g.own σ.length gb) w' (σ ++ [.cells 0 1 (l.map cellI)]) := {
    os := hB.os
    tape := hB.tape
    output := hB.output
    size := hB.size
    keeps := fun b i h => ⟨h, by unfold World.cell?; rw [hB.block b (R.nb b i h)]⟩
    len := by simp
    shape := fun id ver sz len h => by
      obtain ⟨es, h1, h2⟩ := shapeOf_some h
      have hlt := lt_of_some h1
      refine .inl ⟨by unfold shapeOf; rw [List.getElem?_append_left hlt]; exact h, hρ id hlt, fun _ arr t ha => ⟨arr, ?_, rfl⟩⟩
      rw [hB.block _ (Array.getElem?_eq_some_iff.1 ha).1]
      exact ha
    map := fun id es h => ⟨hρ id (lt_of_some h), es, by rw [List.getElem?_append_left (lt_of_some h)]; exact h⟩
    tok := fun t k n h => by
      obtain ⟨sz, fr, h1, h2⟩ := frOf_some h
      exact ⟨n, frOf_of (by rw [List.getElem?_append_left (lt_of_some h1)]; exact h1) h2, Nat.le_refl _, fun _ => rfl⟩
    tsz := fun t sz h => by
      obtain ⟨fr, h1⟩ := tokSz_some h
      exact tokSz_of (fr := fr) (by rw [List.getElem?_append_left (lt_of_some h1)]; exact h1)
    ow := hw
    new := fun b i h _ _ => h
    frame := fun b hb _ => hB.block b hb }
  refine ⟨H, ⟨fun b i h => Nat.lt_of_lt_of_le (R.nb b i h) hB.size, fun id x h => ?_⟩⟩
  by_cases hlt : id < σ.length
  · rw [List.getElem?_append_left hlt] at h
    exact orel_keep H (hρ id hlt) (fun _ => rfl) (fun b hb _ => ⟨hB.block b hb, hw b hb, fun _ h => h⟩) (R.ob id x h)
  · have hid : id = σ.length := by
      have := lt_of_some h
      simp at this
      omega
    subst hid
    simp at h
    subst h
    intro _
    have e1 : (g.own σ.length gb).ρ σ.length = gb := by simp [G.own]
    have e2 : (g.own σ.length gb).ow gb = .ob σ.length := by simp [G.own]
    rw [e1]
    refine ⟨e2, fun o h => by have := R.nb _ _ h; omega, cur, t, hgb, by simpa using hl, fun i e he => ?_⟩
    rw [List.getElem?_map, Option.map_eq_some_iff] at he
    obtain ⟨x, hx, rfl⟩ := he
    refine ⟨rfl, fun j c hcc => ?_⟩
    cases j with
    | succ j => simp [cellI] at hcc
    | zero =>
      simp [cellI] at hcc
      subst hcc
      exact ⟨.int .i64 x, by simpa using hc i x hx, by simp [crel, rep, scal], rfl⟩
end
theorem intRows_some : ∀ {xs : List (List Fz)} {l : List Int}, intRows xs = some l → xs = l.map elemI
  | [], l, h => by simp [intRows] at h; subst h; rfl
  | x :: xs, l, h => by
    simp only [intRows] at h
    unfold ocons at h
    split at h
    · rename_i a0 bs h1 h2
      injection h with h
      subst h
      rw [intRows_some h2]
      unfold intRow at h1
      split at h1
      · injection h1 with h1; subst h1; rfl
      · cases h1
    · cases h
end Go.A
namespace Go.Proofs
open Go.RowKit Go.Maps Go.Sort Go.Shelf
open Go.A in
theorem Tryz.ext_sorted (args : List V) (σ : Store) (v : V) (σ' : Store) (h : extSorted 193 args σ = some (v, σ')) :
    Go.A.Enters Tryz.prog 167 ∧ ∀ g w us, Rel g w σ → vrels g w σ args us → Calls Tryz.prog 167 us.toArray w fun e w' => ∃ u g', e = .returned u ∧ vrel g' w' σ' v u ∧ Rel g' w' σ' ∧ Ext g w σ g' w' σ' := by
  refine ⟨⟨Tryz.f167, _, Tryz.func167, by kernel_rfl, rfl⟩, fun g w us R0 hv => ?_⟩
  unfold extSorted at h
  split at h
  · rename_i f oid ver i o
    split at h
    · rename_i hf
      obtain ⟨rfl, rfl⟩ := hf
      unfold sortedTo at h
      split at h
      · rename_i xs hcell
        rw [Option.bind_eq_some_iff] at h
        obtain ⟨l, hl, h⟩ := h
        have hx := intRows_some hl
        subst hx
        unfold sortedOf at h
        split at h
        · rename_i hlim
          injection h with h
          simp only [Prod.mk.injEq] at h
          obtain ⟨rfl, rfl⟩ := h
          simp only [vrels, vrel, crel, crels] at hv
          obtain ⟨u, rest, rfl, ⟨fs, cs, rfl, hfs, p, ps, hcs, hp, rfl⟩, rfl⟩ := hv
          unfold Store.cell Store.elem at hcell
          rw [Option.bind_eq_some_iff] at hcell
          obtain ⟨el, hel, hc0⟩ := hcell
          rw [Option.bind_eq_some_iff] at hel
          obtain ⟨ob, hob, hel⟩ := hel
          cases ob with
          | tok _ _ => simp [Ob.elem] at hel
          | mp _ => simp [Ob.elem] at hel
          | cells ver' sz es =>
            simp only [Ob.elem] at hel
            split at hel
            · rename_i hver
              subst hver
              have hne : es ≠ [] := fun e => by subst e; simp at hel
              obtain ⟨_, _, arr, t, hheap, _, hrow⟩ := R0.ob oid _ hob hne
              obtain ⟨hlen, hj⟩ := hrow i el hel
              obtain ⟨u, hu1, hu2, _⟩ := hj 0 _ hc0
              simp only [crel, rep] at hu2
              obtain ⟨ad, c, sz', rfl, _, hla, hrep⟩ := hu2
              obtain ⟨v0, sz0, len0, hshape, _, hpt, _⟩ := hp
              have hsh := shapeOf_of hob
              rw [hsh] at hshape
              injection hshape with hshape
              simp only [Prod.mk.injEq] at hshape
              obtain ⟨rfl, rfl, rfl⟩ := hshape
              have hpv := hpt rfl
              subst hpv
              have hfs' : fs = #[] := by cases fs; simpa using hfs
              have hcs' : cs = #[.pointer (some ⟨g.ρ oid, i * sz + 0, none⟩)] := by cases cs; simpa using hcs
              subst hfs' hcs'
              have hlt : g.ρ oid < w.heap.size := (Array.getElem?_eq_some_iff.1 hheap).1
              have hw : w.cell? ⟨g.ρ oid, i * sz + 0, none⟩ = some (.slice ad l.length c) := by
                unfold World.cell?
                rw [hheap]
                simpa using hu1
              have hL : LiesAt w (g.ρ oid) (i * sz + 0) ad c l := ⟨⟨hlt, hw⟩, fun hz => by
                rcases hrep with hrep | ⟨b, o, rfl, hrep⟩
                · exact absurd (List.map_eq_nil_iff.1 hrep) hz
                · have hs1 : sz' = 1 := by
                    cases l with
                    | nil => exact absurd rfl hz
                    | cons x r => simp only [List.map_cons, lenAll] at hla; rw [← hla.1]; rfl
                  subst hs1
                  have hget : ∀ (j : Nat) x, l[j]? = some x → g.N b (o + j) ∧ w.cell? ⟨b, o + j, none⟩ = some (.int .i64 x) := fun j x hj => by
                    have h1 := repRows_get hrep (i := j) (e := elemI x) (by simp [hj])
                    obtain ⟨u, n1, n2, n3⟩ := repRow_get h1 (j := 0) (x := .lit (.int .i64 x)) (by simp [elemI])
                    simp only [rep] at n3
                    rw [Nat.mul_one, Nat.add_zero] at n1 n2
                    exact ⟨n1, by rw [n2, n3.1]⟩
                  obtain ⟨x, r, rfl⟩ : ∃ x r, l = x :: r := by
                    cases l with
                    | nil => exact absurd rfl hz
                    | cons x r => exact ⟨x, r, rfl⟩
                  exact ⟨b, o, rfl, R0.nb b _ (hget 0 x (by simp)).1, fun j x hj => (hget j x hj).2⟩⟩
              unfold LIM at hlim
              have cS := sorted_gives Tryz.sorted Fence.wide 5 trivial trivial trivial trivial rfl (by omega) (Tryz.sorts _) (enters_of Tryz.func192 (by kernel_rfl) rfl) 193 #[.pointer (some ⟨g.ρ oid, i * sz + 0, none⟩)] trivial (enters_of Tryz.func193 (by kernel_rfl) rfl) l (by unfold maxLen; omega) (by omega) w (Tryz.values_gives Fence.wide 2 trivial rfl (by omega) _ _ ad c l hlim w hL)
              have cS' := callsIn_wide.1 cS
              refine Calls.mono (f := 167) cS' fun e w' he => ?_
              obtain ⟨v, rfl, hrw, hnil, hB⟩ := he
              have hslen : (sortI l).length = l.length := List.length_mergeSort l
              rcases hrw.2 with ⟨rfl, hz⟩ | ⟨gb, cap, cur, rfl, hbase, hgb, r1, r2, r3, r4⟩
              · have hl0 : l = [] := List.eq_nil_of_length_eq_zero hz
                subst hl0
                obtain ⟨H, R1⟩ := rel_below R0 hB
                obtain ⟨H2, R2⟩ := add_row0 R1 1
                refine ⟨_, _, rfl, ?_, by simpa [sortI] using R2, by simpa [sortI] using H.trans H2⟩
                simp only [vrel, crel]
                exact ⟨0, 1, 0, by simp [shapeOf, sortI, Ob.shape], Nat.le_refl _, fun _ => ⟨none, 0, rfl, Nat.le_refl _, fun _ => rfl, fun h => absurd rfl h⟩, _, _, rfl⟩
              · have hcur : ∀ (j : Nat) x, (sortI l)[j]? = some x → cur[j]? = some (.int .i64 x) := fun j x hj => by
                  have hjl : j < l.length := by rw [← hslen]; exact (List.getElem?_eq_some_iff.1 hj).1
                  have h1 : (cur.toList.take (l.length * 1))[j]? = some (.int .i64 x) := by
                    rw [r4, List.getElem?_map]
                    have : (l.mergeSort fun x y => decide (x ≤ y))[j]? = some x := hj
                    rw [this]
                    rfl
                  rw [List.getElem?_take, if_pos (by omega)] at h1
                  simpa using h1
                obtain ⟨H, R1⟩ := row_new R0 hB hgb hbase (l := sortI l) (by rw [hslen]; omega) hcur
                refine ⟨_, _, rfl, ?_, R1, H⟩
                simp only [vrel, crel]
                have e1 : (g.own σ.length gb).ρ σ.length = gb := by simp [G.own]
                refine ⟨0, 1, l.length, by simp [shapeOf, Ob.shape, hslen], Nat.le_refl _, fun _ => ⟨some ⟨gb, 0, none⟩, cap, rfl, r1, fun h => ?_, fun h => ⟨by omega, fun _ => by rw [e1], cur, _, by rw [e1]; exact hgb, by omega⟩⟩, _, _, rfl⟩
                have := hnil.2 (List.eq_nil_of_length_eq_zero h)
                cases this
            · cases hel
        · cases h
      · cases h
    · cases h
  · cases h
end Go.Proofs
