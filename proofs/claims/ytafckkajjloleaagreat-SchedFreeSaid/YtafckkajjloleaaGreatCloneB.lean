/- slices.Clone of blocks: a row of its own. -/
import Derived.Test.YtafckkajjloleaaGreatSortC
import Derived.Test.YtafckkajjloleaaGreatExtB
import Derived.Shelf.RegionOpenPlain
import Derived.WalkKit
import Derived.Deep.LoopGhost
import Derived.Lib.Walk
import Derived.Lib.SliceRun
set_option linter.unusedVariables false
set_option linter.unusedSimpArgs false
namespace Go.Proofs
open Go.Shelf Go.RowKit Go.Lib
theorem Tryz.mixed0 : Tryz.prog.follows .mixedOrders = true := by kernel_rfl
theorem Tryz.infoB : (Tryz.prog.info? 44).map (fun i => (i.zero, i.size, i.bytes)) = some (some (.agg #[.slice none 0 0, .slice none 0 0, .int .i64 0, .int .i64 0, .slice none 0 0]), 5, 88) := by kernel_rfl
set_option maxHeartbeats 2000000 in
set_option maxRecDepth 100000 in
theorem Tryz.clone_block (b off n c : Nat) (zs : List Value) (w : World) (hz : zs.length = n * 5) (hmax : n ≤ maxLen) (hbig : n * 88 ≤ 140737488355328) (hc : ∀ j u, zs[j]? = some u → w.cell? ⟨b, off + j, none⟩ = some u) (h1 : ∀ u ∈ zs, u.oneCell' = true) :
    Calls Tryz.prog 42 #[.slice (some ⟨b, off, none⟩) n c] w fun e w' => ∃ v', e = .returned v' ∧ w'.ownsRow w.heap.size 44 5 v' n zs ∧ v' ≠ .slice none 0 0 ∧ Below w.heap.size w w' := by
  have mixed := Tryz.mixed0
  obtain ⟨i0, hi, hz0, hz1, hz2⟩ := info_parts Tryz.infoB
  have t23 := Tryz.underlying23
  have q22 : ∀ (w : World) (a : Option Addr) (n c n' c' : Nat), (binOp .eql 23 (.slice a n c) (.slice none n' c')).run Tryz.prog w = .ok (.bool a.isNone) w := fun w a n c n' c' => Lib.run_eql_slice_nil w _ _ a n c n' c' t23
  have u22 : ∀ w, Sem.run Tryz.prog (underlying 23) w = .ok (TypeDesc.slice 44) w := run_underlying t23
  have A : Aside (∀ j u, zs[j]? = some u → w.cell? ⟨b, off + j, none⟩ = some u) := hc
  clear hc
  go_enter Tryz.func42, Tryz.ntmps42
  go_wp2_with (at_builtin; refine wpList_append_own _ rfl _ _ 23 rfl w.heap.size 44 i0 (.agg #[.slice none 0 0, .slice none 0 0, .int .i64 0, .int .i64 0, .slice none 0 0]) 5 88 t23 hi hz0 hz1 hz2 rfl (by decide) _ _ _ rfl (World.ownsRow_made w #[] 0 (Nat.le_refl _) (Nat.zero_le _) rfl) ⟨b, off, none⟩ n c zs rfl ?qc1 ?qc2 ?qc3 ?qc4 ?qc5 ?qc6 ?_)
  case qc1 => exact hz
  case qc2 =>
    intro j u hj
    rw [Addr.add_lit]
    refine Lib.cell?_alloc_some _ ?_
    exact A.out j u hj
  case qc3 => exact h1
  case qc4 => omega
  case qc5 => omega
  case qc6 => simp
  intro v' w1 hown hgrow hnil
  go_wp2
  go_ret
  refine ⟨v', rfl, by simpa using hown, ?_, ?_⟩
  · exact hnil
  · exact ((Below.refl _ w).alloc (Nat.le_refl _) _).grown hgrow (by simp) (by intro k hk; simp [Value.ownBlock] at hk; omega)
set_option maxHeartbeats 1000000 in
theorem Tryz.clone_block_nil (n c : Nat) (w : World) :
    Calls Tryz.prog 42 #[.slice none n c] w fun e w' => e = .returned (.slice none 0 0) ∧ w' = w := by
  have mixed := Tryz.mixed0
  have t23 := Tryz.underlying23
  have q22 : ∀ (w : World) (a : Option Addr) (n c n' c' : Nat), (binOp .eql 23 (.slice a n c) (.slice none n' c')).run Tryz.prog w = .ok (.bool a.isNone) w := fun w a n c n' c' => Lib.run_eql_slice_nil w _ _ a n c n' c' t23
  go_enter Tryz.func42, Tryz.ntmps42
  go_wp2
  go_ret
  exact ⟨rfl, rfl⟩
end Go.Proofs
namespace Go.A
open Go.RowKit (Below)
section
variable {g : G} {w w' : World} {σ : Store}
/-- A row in a block of the call's own, of whatever cells. -/
theorem row_newG (R : Rel g w σ) (hB : Below w.heap.size w w') {gb : Nat} {cur : Array Value} {t : TypeId} (hgb : w'.heap[gb]? = some (.cells cur t (0, 0))) (hbase : w.heap.size ≤ gb) {sz0 : Nat} {es0 : List (List C)} (hl : es0.length * sz0 ≤ cur.size) (hc : rowRel g w σ cur sz0 es0) :
    Ext g w σ (g.own σ.length gb) w' (σ ++ [.cells 0 sz0 es0]) ∧ Rel (g.own σ.length gb) w' (σ ++ [.cells 0 sz0 es0]) := by
  have hρ : ∀ id, id < σ.length → (g.own σ.length gb).ρ id = g.ρ id := fun id h => put1_ne g.ρ (k := σ.length) (i := id) _ (by omega)
  have hw : ∀ b, b < w.heap.size → (g.own σ.length gb).ow b = g.ow b := fun b h => put1_ne g.ow (k := gb) (i := b) _ (by omega)
  have H : Ext g w σ (g.own σ.length gb) w' (σ ++ [.cells 0 sz0 es0]) := {
    os := hB.os
    tape := hB.tape
    output := hB.output
    size := hB.size
    keeps := fun b i h => ⟨h, by unfold World.cell?; rw [hB.block b (R.nb b i h)]⟩
    len := by simp
    shape := fun id ver sz len h => by
      obtain ⟨es, h1, h2⟩ := shapeOf_some h
      have hlt := lt_of_some h1
      refine .inl ⟨by unfold shapeOf; rw [List.getElem?_append_left hlt]; exact h, hρ id hlt, fun _ arr t ha => ⟨arr, ?_, rfl⟩⟩
      rw [hB.block _ (Array.getElem?_eq_some_iff.1 ha).1]
      exact ha
    map := fun id es h => ⟨hρ id (lt_of_some h), es, by rw [List.getElem?_append_left (lt_of_some h)]; exact h⟩
    tok := fun t k n h => by
      obtain ⟨sz, fr, h1, h2⟩ := frOf_some h
      exact ⟨n, frOf_of (by rw [List.getElem?_append_left (lt_of_some h1)]; exact h1) h2, Nat.le_refl _, fun _ => rfl⟩
    tsz := fun t sz h => by
      obtain ⟨fr, h1⟩ := tokSz_some h
      exact tokSz_of (fr := fr) (by rw [List.getElem?_append_left (lt_of_some h1)]; exact h1)
    ow := hw
    new := fun b i h _ _ => h
    frame := fun b hb _ => hB.block b hb }
  refine ⟨H, ⟨fun b i h => Nat.lt_of_lt_of_le (R.nb b i h) hB.size, fun id x h => ?_⟩⟩
  by_cases hlt : id < σ.length
  · rw [List.getElem?_append_left hlt] at h
    exact orel_keep H (hρ id hlt) (fun _ => rfl) (fun b hb _ => ⟨hB.block b hb, hw b hb, fun _ h => h⟩) (R.ob id x h)
  · have hid : id = σ.length := by
      have := lt_of_some h
      simp at this
      omega
    subst hid
    simp at h
    subst h
    intro _
    have e1 : (g.own σ.length gb).ρ σ.length = gb := by simp [G.own]
    have e2 : (g.own σ.length gb).ow gb = .ob σ.length := by simp [G.own]
    rw [e1]
    refine ⟨e2, fun o h => by have := R.nb _ _ h; omega, cur, t, hgb, hl, H.rowRel hc⟩

end
end Go.A
namespace Go.Proofs
open Go.RowKit
open Go.A in
theorem Tryz.ext_cloneB (args : List V) (σ : Store) (v : V) (σ' : Store) (h : extCloneB 5 args σ = some (v, σ')) :
    Go.A.Enters Tryz.prog 42 ∧ ∀ g w us, Rel g w σ → vrels g w σ args us → Calls Tryz.prog 42 us.toArray w fun e w' => ∃ u g', e = .returned u ∧ vrel g' w' σ' v u ∧ Rel g' w' σ' ∧ Ext g w σ g' w' σ' := by
  refine ⟨⟨Tryz.f42, _, Tryz.func42, by kernel_rfl, rfl⟩, fun g w us R0 hv => ?_⟩
  unfold extCloneB at h
  split at h
  · rename_i xs
    split at h
    · rename_i hok
      obtain ⟨hne, hsz, hlim⟩ := hok
      injection h with h
      simp only [Prod.mk.injEq] at h
      obtain ⟨rfl, rfl⟩ := h
      simp only [vrels, vrel, crel] at hv
      obtain ⟨u, rest, rfl, hrep, rfl⟩ := hv
      obtain ⟨a, c, sz, zs, rfl, hnc, hlay, hadr⟩ := lay_of_rep hrep fun x u h => rep_one h
      rcases hadr with hx | ⟨b, o, rfl, hcell⟩
      · exact absurd hx hne
      have h5 : sz = 5 := by
        have hl2 := hlay.2.1
        cases xs with
        | nil => exact absurd rfl hne
        | cons x r =>
          simp only [lenAll] at hl2
          simp only [okSz, Bool.and_eq_true, decide_eq_true_eq] at hsz
          rw [← hl2.1, hsz.1]
      subst h5
      unfold LIM at hlim
      have hlen : zs.length = xs.length * 5 := hlay.1
      refine Calls.mono (f := 42) (Tryz.clone_block b o xs.length c zs w hlen (by unfold maxLen; omega) (by omega) hcell (lay_one (by omega) hlay)) fun e w' he => ?_
      obtain ⟨v, rfl, hrw, hnil, hB⟩ := he
      rcases hrw.2 with ⟨rfl, hz⟩ | ⟨gb, cap, cur, rfl, hbase, hgb, r1, r2, r3, r4⟩
      · exact absurd rfl hnil
      have hpos : 0 < xs.length := List.length_pos_iff.2 hne
      have hrow0 := rowRel_of_lay (σ := σ) (g := g) hlay
      have hrow : rowRel g w σ cur 5 (xs.map fun e => e.map C.f) := fun i e hi => by
        obtain ⟨q1, q2⟩ := hrow0 i e hi
        refine ⟨q1, fun j c hj => ?_⟩
        obtain ⟨u, k1, k2, k3⟩ := q2 j c hj
        refine ⟨u, ?_, k2, k3⟩
        have k4 : zs[i * 5 + j]? = some u := by simpa using k1
        rw [← r4, List.getElem?_take] at k4
        split at k4
        · simpa using k4
        · cases k4
      obtain ⟨H, R1⟩ := row_newG R0 hB hgb hbase (by rw [List.length_map, r3]; exact Nat.mul_le_mul_right 5 r1) hrow
      refine ⟨_, _, rfl, ?_, R1, H⟩
      simp only [vrel, crel]
      have e1 : (g.own σ.length gb).ρ σ.length = gb := by simp [G.own]
      exact ⟨0, 5, xs.length, by simp [shapeOf, Ob.shape], Nat.le_refl _, fun _ => ⟨some ⟨gb, 0, none⟩, cap, rfl, r1, fun h => by omega, fun h => ⟨by omega, fun _ => by rw [e1], cur, _, by rw [e1]; exact hgb, by omega⟩⟩, _, _, rfl⟩
    · cases h
  · cases h
end Go.Proofs
