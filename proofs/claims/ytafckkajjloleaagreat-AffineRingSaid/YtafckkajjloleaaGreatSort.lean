/- slices.Sort and slices.Sorted at the slice without elements: the library's contracts, at this program. -/
import Derived.Test.YtafckkajjloleaaGreatExt
import Derived.Test.YtafckkajjloleaaGreatLay
import Derived.Test.YtafckkajjloleaaGreatProg
import Derived.Shelf.SlIterI.Sorted
import Derived.Shelf.SortM.Plain
import Derived.Shelf.SortM.SortNone
import Derived.Ground.GgzProg
import Derived.Ground.SlgmProg
import Derived.RangeFuncBox
import Derived.RangeFuncLeaves
import Derived.WalkKit
import Derived.OwnWalkIn
import Derived.TacticsInMore
import Derived.LoopNIn
import Derived.LoopIn
set_option linter.unusedVariables false
set_option linter.unusedSimpArgs false
namespace Go.Proofs
open Go.RowKit Go.Maps Go.Sort Go.Shelf
attribute [local go_sem] Oper.semAt_some

theorem Tryz.sorts (m : Nat) : AnyZI.SortsIn Tryz.prog Tryz.sorted_ren Fence.wide m :=
  ⟨fun blk off cap ss W hH hblk hsz => callsIn_wide.2 (AnyM.slices_Sort_int Tryz.sort blk off cap ss W hH hblk hsz),
   fun p cap W => callsIn_wide.2 (AnyM.slices_Sort_int_none Tryz.sort p cap W)⟩

set_option maxRecDepth 100000 in
set_option maxHeartbeats 1000000 in
theorem Tryz.values1_none (F : Fence) (n : Nat) (h7 : F.fn 169) (hro : F.round = none) (l B o : Nat) (ad : Option Addr) (c : Nat) (J : List Int → World → Prop) (W : World) (hBs : W.cell? ⟨B, o, none⟩ = some (.slice ad 0 c)) (h0 : J [] W) :
    CallsIn F n Tryz.prog 169 #[.func (.yield l) #[] #[], .pointer (some ⟨B, o, none⟩)] W fun e W' => (∃ v, e = .returned v) ∧ J [] W' := by
  refine callsIn_of_wp Tryz.func169 rfl h7 ?_ hro
  simp only [Tryz.ntmps169, List.size_toArray, List.length_cons, List.length_nil, Nat.reduceAdd, Nat.reduceSub, Array.replicate_succ, Array.replicate_zero, List.push_toArray, List.append_toArray, List.nil_append, List.cons_append]
  gi_wp2
  gi_loopw [7] (fun i wr => i = .int .i64 0 ∧ J [] wr) (fun _ _ => 0)
  case atStart => exact ⟨rfl, h0⟩
  case round =>
    obtain ⟨rfl, hJs⟩ := hrel
    gi_wp2
    go_end0
    exact ⟨⟨_, rfl⟩, hJs⟩

open Go.A in
theorem Tryz.ext_sort (args : List V) (σ : Store) (v : V) (σ' : Store) (h : extSort args σ = some (v, σ')) :
    Go.A.Enters Tryz.prog 73 ∧ ∀ g w us, Rel g w σ → vrels g w σ args us → Calls Tryz.prog 73 us.toArray w fun e w' => ∃ u g', e = .returned u ∧ vrel g' w' σ' v u ∧ Rel g' w' σ' ∧ Ext g w σ g' w' σ' := by
  unfold extSort at h
  split at h
  · injection h with h
    simp only [Prod.mk.injEq] at h
    obtain ⟨rfl, rfl⟩ := h
    refine ⟨⟨Tryz.f73, _, Tryz.func73, by kernel_rfl, rfl⟩, fun g w us R0 hv => ?_⟩
    simp only [vrels, vrel, crel, rep] at hv
    obtain ⟨u, rest, rfl, ⟨a, c, sz, rfl, _⟩, rfl⟩ := hv
    have hc := AnyM.slices_Sort_int_none Tryz.sort a c w
    refine Calls.mono (f := 73) hc fun e w' he => ?_
    obtain ⟨rfl, rfl⟩ := he
    exact ⟨_, g, rfl, by simp only [vrel]; exact ⟨#[], rfl, by simp only [vrels]⟩, R0, Ext.refl _ _ _⟩
  · cases h

open Go.A in
theorem Tryz.ext_sorted (args : List V) (σ : Store) (v : V) (σ' : Store) (h : extSorted 169 args σ = some (v, σ')) :
    Go.A.Enters Tryz.prog 154 ∧ ∀ g w us, Rel g w σ → vrels g w σ args us → Calls Tryz.prog 154 us.toArray w fun e w' => ∃ u g', e = .returned u ∧ vrel g' w' σ' v u ∧ Rel g' w' σ' ∧ Ext g w σ g' w' σ' := by
  unfold extSorted at h
  split at h
  · rename_i σ0 f oid ver i o
    split at h
    · rename_i hf
      obtain ⟨rfl, rfl⟩ := hf
      unfold sortedTo at h
      split at h
      · rename_i hcell
        injection h with h
        simp only [Prod.mk.injEq] at h
        obtain ⟨rfl, rfl⟩ := h
        refine ⟨⟨Tryz.f154, _, Tryz.func154, by kernel_rfl, rfl⟩, fun g w us R0 hv => ?_⟩
        simp only [vrels, vrel, crel, crels] at hv
        obtain ⟨u, rest, rfl, ⟨fs, cs, rfl, hfs, p, ps, hcs, hp, rfl⟩, rfl⟩ := hv
        -- the cell that was caught
        unfold Store.cell Store.elem at hcell
        rw [Option.bind_eq_some_iff] at hcell
        obtain ⟨el, hel, hc0⟩ := hcell
        rw [Option.bind_eq_some_iff] at hel
        obtain ⟨ob, hob, hel⟩ := hel
        cases ob with
        | tok _ _ => simp [Ob.elem] at hel
        | mp _ => simp [Ob.elem] at hel
        | cells ver' sz es =>
          simp only [Ob.elem] at hel
          split at hel
          · rename_i hver
            subst hver
            have hne : es ≠ [] := fun e => by subst e; simp at hel
            obtain ⟨_, _, arr, t, hheap, _, hrow⟩ := R0.ob oid _ hob hne
            obtain ⟨hlen, hj⟩ := hrow i el hel
            obtain ⟨u, hu1, hu2, _⟩ := hj 0 _ hc0
            simp only [crel, rep] at hu2
            obtain ⟨ad, c, sz', rfl, _⟩ := hu2
            obtain ⟨v0, sz0, len0, hshape, _, hpt, _⟩ := hp
            have hsh := shapeOf_of hob
            rw [hsh] at hshape
            injection hshape with hshape
            simp only [Prod.mk.injEq] at hshape
            obtain ⟨rfl, rfl, rfl⟩ := hshape
            have hpv := hpt rfl
            subst hpv
            have hfs' : fs = #[] := by cases fs; simpa using hfs
            have hcs' : cs = #[.pointer (some ⟨g.ρ oid, i * sz + 0, none⟩)] := by cases cs; simpa using hcs
            subst hfs' hcs'
            have hlt : g.ρ oid < w.heap.size := (Array.getElem?_eq_some_iff.1 hheap).1
            have hw : w.cell? ⟨g.ρ oid, i * sz + 0, none⟩ = some (.slice ad 0 c) := by
              unfold World.cell?
              rw [hheap]
              simpa using hu1
            have hseq : SeqGives Fence.wide 2 Tryz.prog 169 #[.pointer (some ⟨g.ρ oid, i * sz + 0, none⟩)] encZ (fun ys => ys = []) 0 w := fun l J W hW hJ hY h0 => by
              have hc : W.cell? ⟨g.ρ oid, i * sz + 0, none⟩ = some (.slice ad 0 c) := by
                unfold World.cell?
                rw [hW.block _ hlt]
                exact hw
              exact (Tryz.values1_none Fence.wide 2 trivial rfl l (g.ρ oid) (i * sz + 0) ad c J W hc h0).mono fun e W' he => ⟨he.1, [], rfl, he.2⟩
            have cS := AnyZI.sorted_in Tryz.sorted Fence.wide 5 trivial trivial trivial trivial rfl (by omega) (Tryz.sorts _) (enters_of Tryz.func73 (by kernel_rfl) rfl) 169 #[.pointer (some ⟨g.ρ oid, i * sz + 0, none⟩)] trivial (enters_of Tryz.func169 (by kernel_rfl) rfl) _ 0 (by decide) (by decide) w hseq
            have cS' := callsIn_wide.1 cS
            refine Calls.mono (f := 154) cS' fun e w' he => ?_
            obtain ⟨v, ss, rfl, rfl, _, hnil, hB⟩ := he
            obtain ⟨H, R1⟩ := rel_below R0 hB
            have hv := hnil.2 rfl
            subst hv
            exact ⟨_, g, rfl, by simp only [vsl, vrel, crel, rep]; exact ⟨none, 0, 0, rfl, Nat.le_refl _, by simp only [lenAll], by simp⟩, R1, H⟩
          · cases hel
      · cases h
    · cases h
  · cases h
end Go.Proofs
