/- slices.Sorted of slices.Values, at this program: the iterator reads the slice behind each round; the collecting loop keeps what lay before. -/
import Derived.Test.YtecjccggbbbaaaaGreatSortB
import Derived.Shelf.SlIterI.Sorted
import Derived.RangeFuncBox
import Derived.RangeFuncLeaves
import Derived.WalkKit
import Derived.OwnWalkIn
import Derived.TacticsInMore
import Derived.LoopNIn
import Derived.LoopIn
set_option linter.unusedVariables false
set_option linter.unusedSimpArgs false
namespace Go.Proofs
open Go.RowKit Go.Maps Go.Sort Go.Shelf
attribute [local go_sem] Oper.semAt_some
/-- Where a slice's whole numbers lie. -/
structure LiesAt (w : World) (B o : Nat) (ad : Option Addr) (c : Nat) (zs : List Int) : Prop where
  box : B < w.heap.size ∧ w.cell? ⟨B, o, none⟩ = some (.slice ad zs.length c)
  row : zs ≠ [] → ∃ blk off, ad = some ⟨blk, off, none⟩ ∧ blk < w.heap.size ∧ ∀ (j : Nat) x, zs[j]? = some x → w.cell? ⟨blk, off + j, none⟩ = some (.int .i64 x)
theorem LiesAt.later {w W : World} {B o : Nat} {ad : Option Addr} {c : Nat} {zs : List Int} (h : LiesAt w B o ad c zs) (hb : Below w.heap.size w W) : LiesAt W B o ad c zs := by
  have hc : ∀ b i, b < w.heap.size → W.cell? ⟨b, i, none⟩ = w.cell? ⟨b, i, none⟩ := fun b i h => by unfold World.cell?; rw [hb.block b h]
  refine ⟨⟨Nat.lt_of_lt_of_le h.box.1 hb.size, by rw [hc _ _ h.box.1]; exact h.box.2⟩, fun hz => ?_⟩
  obtain ⟨blk, off, h1, h2, h3⟩ := h.row hz
  exact ⟨blk, off, h1, Nat.lt_of_lt_of_le h2 hb.size, fun j x hj => by rw [hc _ _ h2]; exact h3 j x hj⟩
set_option maxRecDepth 100000 in
set_option maxHeartbeats 2000000 in
theorem Tryz.values1 (F : Fence) (n : Nat) (h7 : F.fn 193) (hro : F.round = none) (hn : 1 ≤ n) (l B o : Nat) (ad : Option Addr) (c : Nat) (zs : List Int) (hzl : zs.length ≤ 4294967296) (w0 : World) (hL : LiesAt w0 B o ad c zs) (J : List Int → World → Prop) (hJb : ∀ s W', J s W' → Below w0.heap.size w0 W')
    (hY : ∀ pre x W1, J pre W1 → pre.length < zs.length → YieldAt F (n - 1) Tryz.prog l #[encZ x] W1 fun e W' => e = .returned (.bool true) ∧ J (pre ++ [x]) W' ∧ KeepsWalks W1 W')
    (W : World) (h0 : J [] W) :
    CallsIn F n Tryz.prog 193 #[.func (.yield l) #[] #[], .pointer (some ⟨B, o, none⟩)] W fun e W' => (∃ v, e = .returned v) ∧ J zs W' := by
  have hBs : W.cell? ⟨B, o, none⟩ = some (.slice ad zs.length c) := (hL.later (hJb _ _ h0)).box.2
  refine callsIn_of_wp Tryz.func193 rfl h7 ?_ hro
  simp only [Tryz.ntmps193, List.size_toArray, List.length_cons, List.length_nil, Nat.reduceAdd, Nat.reduceSub, Array.replicate_succ, Array.replicate_zero, List.push_toArray, List.append_toArray, List.nil_append, List.cons_append]
  gi_wp2
  gi_loopw [7] (fun i wr => ∃ k : Nat, k ≤ zs.length ∧ i = .int .i64 k ∧ J (zs.take k) wr) (fun i _ => match i with | .int _ k => zs.length - k.toNat | _ => 0)
  case atStart => exact ⟨0, Nat.zero_le _, rfl, h0⟩
  case round =>
    obtain ⟨k, hk, rfl, hJs⟩ := hrel
    by_cases hlt : k < zs.length
    · obtain ⟨blk, off, rfl, hblk, hrow⟩ := (hL.later (hJb _ _ hJs)).row (fun e => by subst e; simp at hlt)
      have hcell := hrow k zs[k] (by simp [hlt])
      obtain ⟨fn, tmps, assign, body, hy, hR⟩ := hY (zs.take k) zs[k] _ hJs (by simp; omega)
      clear hrow hL hBs
      gi_wp2
      refine hR.mono ?_
      rintro e W3 ⟨rfl, hJ3, hk3⟩
      gi_wp2
      go_roundw
      case rel => exact ⟨k + 1, by omega, by go_num, by rw [List.take_succ_eq_append_getElem hlt]; exact hJ3⟩
      case measure =>
        show zs.length - ((k : Int) + 1).toNat < zs.length - (k : Int).toNat
        omega
    · have : k = zs.length := by omega
      subst this
      gi_wp2
      go_end0
      exact ⟨⟨_, rfl⟩, by simpa using hJs⟩
/-- An iterator's promise, to whoever keeps what lay below. -/
def Gives (F : Fence) (n : Nat) (P : Program) (g : Nat) (lb : Array Value) (zs : List Int) (w : World) : Prop :=
  ∀ (l : Nat) (J : List Int → World → Prop) (W : World), (∀ s W', J s W' → Below w.heap.size w W') →
    (∀ pre x W1, J pre W1 → pre.length < zs.length → YieldAt F (n - 1) P l #[encZ x] W1 fun e W' => e = .returned (.bool true) ∧ J (pre ++ [x]) W' ∧ KeepsWalks W1 W') →
    J [] W →
    CallsIn F n P g (#[.func (.yield l) #[] #[]] ++ lb) W fun e W' => (∃ v, e = .returned v) ∧ J zs W'
theorem Tryz.values_gives (F : Fence) (n : Nat) (h7 : F.fn 193) (hro : F.round = none) (hn : 1 ≤ n) (B o : Nat) (ad : Option Addr) (c : Nat) (zs : List Int) (hzl : zs.length ≤ 4294967296) (w0 : World) (hL : LiesAt w0 B o ad c zs) :
    Gives F n Tryz.prog 193 #[.pointer (some ⟨B, o, none⟩)] zs w0 := fun l J W hJb hY h0 => Tryz.values1 F n h7 hro hn l B o ad c zs hzl w0 hL J hJb hY W h0
variable {P : Program} {ρ : Ren}
set_option maxRecDepth 100000 in
set_option maxHeartbeats 4000000 in
theorem append_gives (L : SlLaysZI.n11 P ρ) (F : Fence) (n : Nat) (h11 : F.fn (ρ.f 11)) (hro : F.round = none) (hn : 2 ≤ n) (g : Nat) (lb : Array Value) (hFg : F.fn g) (eg : ∀ args w, (callFunc g args).run P w = .ok (.enter g args) w)
    (zs : List Int) (hN : zs.length ≤ maxLen) (hNb : zs.length * 8 ≤ 140737488355328) (w : World) (hseq : Gives F (n - 1) P g lb zs w) :
    CallsIn F n P (ρ.f 11) #[.slice none 0 0, .func (.func g) #[] lb] w fun e w' => ∃ v : Value, e = .returned v ∧ w'.ownsRow w.heap.size (ρ.t 26) 1 v zs.length (zs.map encZ) ∧ (v = .slice none 0 0 ↔ zs = []) ∧ Below w.heap.size w w' := by
  have h1 : 1 ≤ n := by omega
  have mixed := L.mixed; have t0 := L.t0; have a0 := L.a0; have z0 := L.z0; have v0 := L.v0; have t24 := L.t24; have a24 := L.a24; have z24 := L.z24; have v24 := L.v24; have t26 := L.t26; have a26 := L.a26; have z26 := L.z26; have v26 := L.v26; have t28 := L.t28; have a28 := L.a28; have z28 := L.z28; have v28 := L.v28
  have hne : ρ.t 24 ≠ ρ.t 26 := fun e => by have h := L.t24; rw [e, L.t26] at h; cases h
  have u0 := run_underlying L.t0; have u24 := run_underlying L.t24; have u26 := run_underlying L.t26; have u28 := run_underlying L.t28
  obtain ⟨_, _, FG⟩ := L.f11
  refine callsIn_of_wp_marks FG rfl h11 ?_ hro
  simp only [SlBodyZ.n11_ntmps ρ, List.size_toArray, List.length_cons, List.length_nil, Nat.reduceAdd, Nat.reduceSub, Array.replicate_succ, Array.replicate_zero, List.push_toArray, List.append_toArray, List.nil_append, List.cons_append]
  gi_wp2
  refine wpIn_rangeFunc ?_
  intro fn hfn
  rw [hro]
  obtain ⟨W0, hW0⟩ : ∃ W0, w.alloc (.cells #[.slice none 0 0] (ρ.t 24)) = W0 := ⟨_, rfl⟩
  have hs0 : W0.heap.size = w.heap.size + 1 := by rw [← hW0]; simp
  have hv0 : W0.heap[w.heap.size]? = some (.cells #[.slice none 0 0] (ρ.t 24) (0, 0)) := by rw [← hW0]; exact World.alloc_heap_new w _
  have hb0 : Below w.heap.size w W0 := by rw [← hW0]; exact (Below.refl _ w).alloc (Nat.le_refl _) _
  rw [hW0]
  let rec0 := AnyZI.apRec ρ fn (.func (.func g) #[] lb) w.heap.size W0.heap.size .ready none
  obtain ⟨W1, hW1⟩ : ∃ W1, (W0.alloc (.deferred (some []))).alloc (.loop rec0) = W1 := ⟨_, rfl⟩
  have hold : ∀ k, k < W0.heap.size → W1.heap[k]? = W0.heap[k]? := fun k hk => by
    rw [← hW1]; exact (Below.heap_alloc _ _ k (by simp; omega)).trans (Below.heap_alloc _ _ k hk)
  have hb1 : Below w.heap.size w W1 := by rw [← hW1]; exact (hb0.alloc hb0.size _).alloc (by have := hb0.size; simp; omega) _
  have hs1 : W1.heap.size = W0.heap.size + 2 := by rw [← hW1]; simp
  have hM : AnyZI.ApAt ρ w fn (.func (.func g) #[] lb) w.heap.size (W0.heap.size + 1) W0.heap.size [] W1 :=
    ⟨⟨_, (hold w.heap.size (by omega)).trans hv0, ⟨rfl, .inl ⟨rfl, rfl⟩⟩, by simp⟩,
     by rw [← hW1]; have := World.alloc_heap_new (W0.alloc (.deferred (some []))) (.loop rec0); rwa [World.size_alloc] at this,
     by rw [← hW1]; exact (Below.heap_alloc _ _ _ (by simp)).trans (World.alloc_heap_new W0 _), hb1⟩
  refine ⟨W0.heap.size + 1, [{ target := .collected W0.heap.size, args := #[] }], W1, { target := .fn (.func g) lb, args := #[.func (.yield (W0.heap.size + 1)) #[] #[]] }, W1, g,
    #[.func (.yield (W0.heap.size + 1)) #[] #[]] ++ lb, W1, ?_, ?_, ?_, ?_, fun _ => h1, ?_⟩
  · rw [← hW1]; exact run_enterLoop_outer _ _ _ _ _
  · simp [resolve, go_sem]
  · intro f' hf'; simp [Target.leads] at hf'; subst hf'; exact hFg
  · simp [invoke, go_sem, eg]
  · refine (hseq (W0.heap.size + 1) (AnyZI.ApAt ρ w fn (.func (.func g) #[] lb) w.heap.size (W0.heap.size + 1) W0.heap.size) W1 (fun s W' h => h.below)
      (fun pre x W hJ hl => AnyZI.apYield { L with } F (n - 1 - 1) w fn hfn _ w.heap.size (W0.heap.size + 1) W0.heap.size (by omega) (by omega) (by omega) (Nat.le_refl _) (by omega) zs.length hN hNb pre x W hJ hl) hM).mono ?_
    rintro e W2 ⟨⟨v0, rfl⟩, h2⟩
    obtain ⟨v, hv, hrow, hnil⟩ := h2.box
    have hend := run_endLoop (P := P) h2.L (by simp [AnyZI.apRec])
    obtain ⟨W3, hW3⟩ : ∃ W3, W2.putObj (W0.heap.size + 1) (.loop { rec0 with state := .exhausted }) = W3 := ⟨_, rfl⟩
    have hend' := hend
    rw [show W2.putObj (W0.heap.size + 1) (.loop { rec0 with state := .exhausted }) = W3 from hW3] at hend'
    have hg3 : W2.grownBy W3 (some (W0.heap.size + 1)) := by rw [← hW3]; exact grownBy_putObj_a _ _ _
    have hv3 : W3.heap[w.heap.size]? = some (.cells #[v] (ρ.t 24) (0, 0)) := by rw [← hW3]; exact (World.putObj_heap_other (by omega)).trans hv
    have hK3 : W3.heap[W0.heap.size]? = some (.deferred (some [])) := by rw [← hW3]; exact (World.putObj_heap_other (by omega)).trans h2.K
    have hrow3 := hrow.kept hg3 (ownsRow_ne_a hrow h2.L (fun cur e => by first | cases e | exact hne (Obj.cells.inj e).2.1))
    have hb3 : Below w.heap.size w W3 := h2.below.grown hg3 h2.below.size (fun k e => by cases e; omega)
    obtain ⟨hc3, hf3⟩ := cell_of_box_a hv3
    clear hW3
    refine ⟨none, W3, hend', ?_⟩
    gi_wp2
    rw [← hs0]
    refine ⟨by simp, .inl ⟨_, _, rfl, run_takeDeferred hK3, ?_⟩⟩
    exact ⟨_, results_tmp rfl _ _ _, v, rfl, hrow3.kept (grownBy_putObj_a _ _ _) (ownsRow_ne_a hrow3 hK3 (fun cur e => by first | cases e | exact hne (Obj.cells.inj e).2.1)), hnil, hb3.grown (grownBy_putObj_a _ _ _) hb3.size (fun k e => by cases e; omega)⟩
set_option maxHeartbeats 1000000 in
theorem collect_gives (L : SlLaysZI.n8 P ρ) (F : Fence) (n : Nat) (h8 : F.fn (ρ.f 8)) (h11 : F.fn (ρ.f 11)) (hro : F.round = none) (hn : 3 ≤ n) (g : Nat) (lb : Array Value) (hFg : F.fn g) (eg : ∀ args w, (callFunc g args).run P w = .ok (.enter g args) w)
    (zs : List Int) (hN : zs.length ≤ maxLen) (hNb : zs.length * 8 ≤ 140737488355328) (w : World) (hseq : Gives F (n - 1 - 1) P g lb zs w) :
    CallsIn F n P (ρ.f 8) #[.func (.func g) #[] lb] w fun e w' => ∃ v : Value, e = .returned v ∧ w'.ownsRow w.heap.size (ρ.t 26) 1 v zs.length (zs.map encZ) ∧ (v = .slice none 0 0 ↔ zs = []) ∧ Below w.heap.size w w' := by
  have h1 : 1 ≤ n := by omega
  have e11 : ∀ args w, (callFunc (ρ.f 11) args).run P w = .ok (.enter (ρ.f 11) args) w := L.f11.enters rfl
  have mixed := L.mixed; have t0 := L.t0; have a0 := L.a0; have z0 := L.z0; have v0 := L.v0; have t24 := L.t24; have a24 := L.a24; have z24 := L.z24; have v24 := L.v24; have t26 := L.t26; have a26 := L.a26; have z26 := L.z26; have v26 := L.v26; have t28 := L.t28; have a28 := L.a28; have z28 := L.z28; have v28 := L.v28
  have u0 := run_underlying L.t0; have u24 := run_underlying L.t24; have u26 := run_underlying L.t26; have u28 := run_underlying L.t28
  obtain ⟨_, _, FG⟩ := L.f8
  refine callsIn_of_wp FG rfl h8 ?_ hro
  simp only [SlBodyZ.n8_ntmps ρ, List.size_toArray, List.length_cons, List.length_nil, Nat.reduceAdd, Nat.reduceSub, Array.replicate_succ, Array.replicate_zero, List.push_toArray, List.append_toArray, List.nil_append, List.cons_append]
  gi_wp2_with (gi_at_fn (ρ.f 11); refine (append_gives { L with } F (n - 1) h11 hro (by omega) g lb hFg eg zs hN hNb _ hseq).mono ?_; rintro e w' ⟨v, rfl, hrow, hnil, hb⟩)
  go_ret
  exact ⟨v, rfl, hrow, hnil, hb⟩
set_option maxRecDepth 100000 in
set_option maxHeartbeats 2000000 in
theorem sorted_gives (L : SlLaysZI.n6 P ρ) (F : Fence) (n : Nat) (h6 : F.fn (ρ.f 6)) (h8 : F.fn (ρ.f 8)) (h9 : F.fn (ρ.f 9)) (h11 : F.fn (ρ.f 11)) (hro : F.round = none) (hn : 4 ≤ n) (hsort : AnyZI.SortsIn P ρ F (n - 1)) (e9 : ∀ args w, (callFunc (ρ.f 9) args).run P w = .ok (.enter (ρ.f 9) args) w) (g : Nat) (lb : Array Value) (hFg : F.fn g) (eg : ∀ args w, (callFunc g args).run P w = .ok (.enter g args) w)
    (zs : List Int) (hN : zs.length ≤ maxLen) (hNb : zs.length * 8 ≤ 140737488355328) (w : World) (hseq : Gives F (n - 1 - 1 - 1) P g lb zs w) :
    CallsIn F n P (ρ.f 6) #[.func (.func g) #[] lb] w fun e w' => ∃ v : Value, e = .returned v ∧ w'.ownsRow w.heap.size (ρ.t 26) 1 v zs.length ((zs.mergeSort (fun x y => decide (x ≤ y))).map encZ) ∧ (v = .slice none 0 0 ↔ zs = []) ∧ Below w.heap.size w w' := by
  have h1 : 1 ≤ n := by omega
  have e8 : ∀ args w, (callFunc (ρ.f 8) args).run P w = .ok (.enter (ρ.f 8) args) w := L.f8.enters rfl
  have mixed := L.mixed; have t0 := L.t0; have a0 := L.a0; have z0 := L.z0; have v0 := L.v0; have t24 := L.t24; have a24 := L.a24; have z24 := L.z24; have v24 := L.v24; have t26 := L.t26; have a26 := L.a26; have z26 := L.z26; have v26 := L.v26; have t28 := L.t28; have a28 := L.a28; have z28 := L.z28; have v28 := L.v28
  have u0 := run_underlying L.t0; have u24 := run_underlying L.t24; have u26 := run_underlying L.t26; have u28 := run_underlying L.t28
  obtain ⟨_, _, FG⟩ := L.f6
  refine callsIn_of_wp FG rfl h6 ?_ hro
  simp only [SlBodyZ.n6_ntmps ρ, List.size_toArray, List.length_cons, List.length_nil, Nat.reduceAdd, Nat.reduceSub, Array.replicate_succ, Array.replicate_zero, List.push_toArray, List.append_toArray, List.nil_append, List.cons_append]
  gi_wp2_with (gi_at_fn (ρ.f 8); refine (collect_gives { L with } F (n - 1) h8 h11 hro (by omega) g lb hFg eg zs hN hNb _ hseq).mono ?_; rintro e W ⟨v, rfl, hrow, hnil, hb⟩)
  rcases hrow.2 with ⟨rfl, hz⟩ | ⟨gb, cap, cur, rfl, hbase, hgb, r1, r2, r3, r4⟩
  · have hss : zs = [] := List.eq_nil_of_length_eq_zero hz
    subst hss
    gi_wp2_with (gi_at_fn (ρ.f 9); refine (hsort.2 none 0 W).mono ?_; rintro e w' ⟨rfl, rfl⟩)
    go_ret
    exact ⟨.slice none 0 0, rfl, by simpa using hrow, by simp, hb⟩
  · have hH : Holds encZ W gb 0 zs.toArray := holds_of_block_i hgb (by simpa using r4)
    have hgl : gb < W.heap.size := (Array.getElem?_eq_some_iff.1 hgb).1
    have hsz : zs.length < 4611686018427387904 := by omega
    have cS := hsort.1 gb 0 cap zs W hH hgl hsz
    gi_wp2_with (gi_at_fn (ρ.f 9); refine cS.mono ?_; rintro e w' ⟨rfl, nn, os, rfl⟩)
    go_ret
    exact ⟨_, rfl, ownsRow_sorted_i (by simp) hbase hgb r1 r2 r3, hnil, hb.grown (grownBy_sorted_i _) hb.size (fun j hj => by cases hj; exact hbase)⟩
theorem Tryz.sorts (m : Nat) : AnyZI.SortsIn Tryz.prog Tryz.sorted_ren Fence.wide m :=
  ⟨fun blk off cap ss W hH hblk hsz => callsIn_wide.2 (AnyM.slices_Sort_int Tryz.sort blk off cap ss W hH hblk hsz),
   fun p cap W => callsIn_wide.2 (AnyM.slices_Sort_int_none Tryz.sort p cap W)⟩
end Go.Proofs
