import Derived.Test.YtecjccggbbbaaaaGreatKO
import Derived.Test.YtecjccggbbbaaaaGreatKN
set_option linter.unusedVariables false
set_option linter.unusedSimpArgs false
namespace AC
open Go Go.A Go.A.Lex
theorem mget_all17 (x n : Nat) : mget 17 (allE x n) = some (.one (.fn F.eval_machine_store [cP x] [])) := rfl
abbrev bF : PBlock := ⟨[], [⟨17, 8, 1, 0, [1, 2], 0⟩], 3, 0, []⟩
abbrev bG : PBlock := ⟨[], [⟨17, 8, 1, 0, [1, 2], 0⟩, ⟨0, 8, 1, 3, [], 0⟩, ⟨4, 8, 1, 4, [2, 3], 0⟩], 0, 4, []⟩
theorem bF_ok : okB bF := ⟨by simp, by simp, by simp, by simp [okOpL, okOp], by simp⟩
theorem bG_ok : okB bG := ⟨by simp, by simp, by simp, by simp [okOpL, okOp], by simp⟩
theorem trF_ok : OkRun trF := by
  refine ⟨⟨by simp [trF], by simp [trF], fun b hb => ?_, by simp [trF]⟩, fun b hb => ?_, fun b hb p hp => ?_⟩
  · simp only [trF, List.mem_cons, List.not_mem_nil, or_false] at hb
    subst hb
    exact bF_ok
  · simp only [trF, List.mem_cons, List.not_mem_nil, or_false] at hb
    subst hb
    simp
  · simp only [trF, List.mem_cons, List.not_mem_nil, or_false] at hb
    subst hb
    simp at hp
theorem trG_ok : OkRun trG := by
  refine ⟨⟨by simp [trG], by simp [trG], fun b hb => ?_, by simp [trG]⟩, fun b hb => ?_, fun b hb p hp => ?_⟩
  · simp only [trG, List.mem_cons, List.not_mem_nil, or_false] at hb
    subst hb
    exact bG_ok
  · simp only [trG, List.mem_cons, List.not_mem_nil, or_false] at hb
    subst hb
    simp
  · simp only [trG, List.mem_cons, List.not_mem_nil, or_false] at hb
    subst hb
    simp at hp
section
variable {σ σ' : Store} {mid tk n p : Nat} {bc : C} {tr : List (List Fz)} {v : Int} {q : Bool} (M0 : MemO σ mid tk bc n tr) (B : Wr σ mid tk bc n tr p v q σ') (M : UMap) (hp : getM 1 M = some (p : Int)) (hv : getM 2 M = some v)
include M0 B hp hv
theorem trF_run : call T F.eval_machine_run [.one (cP (σ.length + 3))] (mS σ trF mid M 0) = some (.tup [vI 8, vU64 0], mS σ' trF mid M (if q = true then 2 else 1)) := by
  have h := mS_mach M0 trF M
  have hlen := B.length
  have h' := mS_mach' hlen (B.ok M0) (mem_mid M0) trF M
  have es := fun s => mS_stE' (mid := mid) hlen trF M M s
  have hl : (mS σ' trF mid M 0).length = (mS σ trF mid M 0).length := by simp [hlen]
  have hg : mget 17 (allE (σ.length + 3) (mS σ trF mid M 0).length) = some (.one (.fn F.eval_machine_store [cP (σ.length + 3)] [])) := mget_all17 _ _
  have hc := way_store M0 B trF M M 1 bF ⟨17, 8, 1, 0, [1, 2], 0⟩ 1 2 rfl hp hv rfl
  cases q with
  | false =>
    have hL := fun a1 a2 a5 a7 a8 a9 a13 a14 a15 a16 a17 a18 a19 => l0_stop h bF M 0 (by omega) (by omega) 0 (by decide) F.eval_machine_store [cP (σ.length + 3)] [] hg (vI ((0 : Nat) : Int)) [] hc a1 a2 a5 a7 a8 a9 a13 a14 a15 a16 a17 a18 a19
    have hR := run_stopM h h' hl trF_ok bF 0 0 rfl M M M 0 1 8 ⟨17, 8, 1, 0, [1, 2], 0⟩ (by omega) rfl hL (vI 0) (vU64 0) vU vU vU vU vU vU vU vU vU vU vU vU vU vU
    rw [h.same] at hR
    have := em_run_of h (σ' := stE (mS σ' trF mid M 0) (σ.length + 3) (σ.length + 2) trF (cP mid) 9 M 1) (by rw [stE_length]; exact hl) ((h'.to _ _).ok) 8 0 ⟨_, scope_ret hR⟩
    rw [es] at this
    exact this
  | true =>
    have hL := fun a1 a2 a5 a7 a8 a9 a13 a14 a15 a16 a17 a18 a19 => (l0_nod h h' hl bF bF_ok M 0 (by omega) (by omega) 0 (by decide) F.eval_machine_store [cP (σ.length + 3)] [] hg (vI ((0 : Nat) : Int)) rfl (by decide) [] hc a1 a2 a5 a7 a8 a9 a13 a14 a15 a16 a17 a18 a19).trans
      (l0_end hl bF M 1 0 (vI ((0 : Nat) : Int)) rfl _ rfl vU vU vU vU vU vU vU vU vU vU vU vU vU)
    have hR := run_trapM h h' hl trF_ok (by omega) bF 0 0 rfl M M M 0 1 (by omega) rfl hL (by omega) rfl (vI 0) (vU64 0) vU vU vU vU vU vU vU vU vU vU vU vU vU vU
    rw [h.same] at hR
    have := em_run_of h (σ' := stE (mS σ' trF mid M 0) (σ.length + 3) (σ.length + 2) trF (cP mid) 9 M 2) (by rw [stE_length]; exact hl) ((h'.to _ _).ok) 8 0 ⟨_, scope_ret hR⟩
    rw [es] at this
    exact this
theorem trG_run : ∃ U, call T F.eval_machine_run [.one (cP (σ.length + 3))] (mS σ trG mid M 0) = some (.tup [vI 8, vU64 0], mS σ' trG mid U (if q = true then 3 else 1)) := by
  have h := mS_mach M0 trG M
  have hlen := B.length
  have h' := mS_mach' hlen (B.ok M0) (mem_mid M0) trG M
  have es := fun U s => mS_stE' (mid := mid) hlen trG M U s
  have hl : (mS σ' trG mid M 0).length = (mS σ trG mid M 0).length := by simp [hlen]
  have hg : mget 17 (allE (σ.length + 3) (mS σ trG mid M 0).length) = some (.one (.fn F.eval_machine_store [cP (σ.length + 3)] [])) := mget_all17 _ _
  have hc := way_store M0 B trG M M 1 bG ⟨17, 8, 1, 0, [1, 2], 0⟩ 1 2 rfl hp hv rfl
  cases q with
  | false =>
    have hL := fun a1 a2 a5 a7 a8 a9 a13 a14 a15 a16 a17 a18 a19 => l0_stop h bG M 0 (by omega) (by omega) 0 (by decide) F.eval_machine_store [cP (σ.length + 3)] [] hg (vI ((0 : Nat) : Int)) [] hc a1 a2 a5 a7 a8 a9 a13 a14 a15 a16 a17 a18 a19
    have hR := run_stopM h h' hl trG_ok bG 0 0 rfl M M M 0 1 8 ⟨17, 8, 1, 0, [1, 2], 0⟩ (by omega) rfl hL (vI 0) (vU64 0) vU vU vU vU vU vU vU vU vU vU vU vU vU vU
    rw [h.same] at hR
    have := em_run_of h (σ' := stE (mS σ' trG mid M 0) (σ.length + 3) (σ.length + 2) trG (cP mid) 9 M 1) (by rw [stE_length]; exact hl) ((h'.to _ _).ok) 8 0 ⟨_, scope_ret hR⟩
    rw [es] at this
    exact ⟨M, this⟩
  | true =>
    have hb := B.val
    have e1 : stepV M ⟨0, 8, 1, 3, [], 0⟩ = some (some 0) := by
      unfold stepV
      rw [if_pos rfl, if_pos rfl]
    have e2 : stepV (putM 3 0 M) ⟨4, 8, 1, 4, [2, 3], 0⟩ = some none := by
      have g2 : getM 2 (putM 3 0 M) = some v := by rw [get_putM, if_neg (by omega)]; exact hv
      have g3 : getM 3 (putM 3 0 M) = some (0 : Int) := by rw [get_putM, if_pos rfl]
      have hw : mayW 8 = true := rfl
      have hd : doS 4 8 v 0 = none := by
        rw [doS, if_pos ⟨rfl, cutW_of 8 hw (by omega) (by decide)⟩]
      unfold stepV
      rw [if_neg (by decide), if_pos (by decide)]
      simp only [g2, g3]
      rw [if_pos ⟨rfl, by omega, by omega⟩, hd]
    have hO : opsS 9 (bG.ops.drop 1) M 1 = some (.stop (putM 3 0 M) 8 3 ⟨4, 8, 1, 4, [2, 3], 0⟩) := by
      show opsS 9 [⟨0, 8, 1, 3, [], 0⟩, ⟨4, 8, 1, 4, [2, 3], 0⟩] M 1 = _
      rw [opsS, if_neg (by omega), e1]
      simp only [Int.reduceLT, if_true]
      rw [opsS, if_neg (by omega), e2]
      rfl
    have hq := run_l0 h' (vI ((0 : Nat) : Int)) rfl bG bG_ok 2 1 M 1 _ vU vU vU vU vU vU vU vU vU vU vU vU vU rfl (by decide) (by omega) (by omega) hO
    rw [hl] at hq
    have hL := fun a1 a2 a5 a7 a8 a9 a13 a14 a15 a16 a17 a18 a19 => (l0_nod h h' hl bG bG_ok M 0 (by omega) (by omega) 0 (by decide) F.eval_machine_store [cP (σ.length + 3)] [] hg (vI ((0 : Nat) : Int)) rfl (by decide) [] hc a1 a2 a5 a7 a8 a9 a13 a14 a15 a16 a17 a18 a19).trans hq
    have hR := run_stopM h h' hl trG_ok bG 0 0 rfl M M (putM 3 0 M) 0 3 8 ⟨4, 8, 1, 4, [2, 3], 0⟩ (by omega) rfl hL (vI 0) (vU64 0) vU vU vU vU vU vU vU vU vU vU vU vU vU vU
    rw [h.same] at hR
    have := em_run_of h (σ' := stE (mS σ' trG mid M 0) (σ.length + 3) (σ.length + 2) trG (cP mid) 9 (putM 3 0 M) 3) (by rw [stE_length]; exact hl) ((h'.to _ _).ok) 8 0 ⟨_, scope_ret hR⟩
    rw [es] at this
    exact ⟨_, this⟩
end
abbrev rR (c w s : Int) : A.V := .tup [.agg [.f (ei c), .f (eu w), .f (ei s)], vI 0]
theorem tArgs_eq {p v : Int} (hp : 0 ≤ p ∧ p < 256) (hv : 0 ≤ v ∧ v < 256) : argsV 0 [] [64, 8] [p, v] = [(1, p), (2, v)] := by
  have w64 : mayW 64 = true := rfl
  have w8 : mayW 8 = true := rfl
  have e2 : cutW p 64 = p := cutW_of 64 w64 hp.1 (by show p < 18446744073709551616; omega)
  have e3 : cutW v 8 = v := cutW_of 8 w8 hv.1 (by simpa using hv.2)
  show [(((0 : Nat) : Int) + 1, cutW p 64), (((1 : Nat) : Int) + 1, cutW v 8)] = _
  rw [e2, e3]
  rfl
section
variable {σ σ' : Store} {mid tk n p : Nat} {bc : C} {tr : List (List Fz)} {v : Int} {q : Bool} (M0 : MemO σ mid tk bc n tr) (B : Wr σ mid tk bc n tr p v q σ')
include M0 B
theorem Run_trF : call T F.eval_Run [vFunc trF, vL (([(p : Int), v] : List Int).map ru), .one (cP mid), vI 9] σ = some (rR 8 0 (if q = true then 2 else 1), σ') := by
  have hs := B.small
  have hv := B.val
  have hA := tArgs_eq (p := p) (v := v) (by omega) hv
  have hR := trF_run M0 B [(1, (p : Int)), (2, v)] rfl rfl
  refine Run_of M0.ok (B.ok M0) B.length trF trF_ok mid (mem_mid M0) 9 (by omega) trF_check [(p : Int), v] rfl ?_ 8 0 (if q = true then 2 else 1) _ (hA ▸ hR)
  intro x hx
  simp only [List.mem_cons, List.not_mem_nil, or_false] at hx
  omega
theorem Run_trG : call T F.eval_Run [vFunc trG, vL (([(p : Int), v] : List Int).map ru), .one (cP mid), vI 9] σ = some (rR 8 0 (if q = true then 3 else 1), σ') := by
  have hs := B.small
  have hv := B.val
  have hA := tArgs_eq (p := p) (v := v) (by omega) hv
  obtain ⟨U, hR⟩ := trG_run M0 B [(1, (p : Int)), (2, v)] rfl rfl
  refine Run_of M0.ok (B.ok M0) B.length trG trG_ok mid (mem_mid M0) 9 (by omega) trG_check [(p : Int), v] rfl ?_ 8 0 (if q = true then 3 else 1) U (hA ▸ hR)
  intro x hx
  simp only [List.mem_cons, List.not_mem_nil, or_false] at hx
  omega
end
end AC

namespace AC
open Go Go.A Go.A.Lex
set_option maxRecDepth 10000 in
set_option maxHeartbeats 1000000 in
theorem Traps_long (p v : Int) (bs : List Int) (h : 100 < bs.length) :
    call T F.locksteplaw13_EvalTraps [vL (bs.map ub), .one (.f (.lit (.int .u8 p))), .one (.f (.lit (.int .u8 v)))] [] = some (vB true, []) := by
  rw [call_eq (fn := a_locksteplaw13_EvalTraps) rfl]
  have hA := awake13
  have h4 : ((bs.length : Int) > 100) = True := by simp; omega
  simp -implicitDefEqProofs only [go_sem, a_locksteplaw13_EvalTraps, hA, List.length_map, h4]
abbrev oS : Ob := .cells 0 6 [[.f (ei 17), .f (ei 8), .f (ei 1), .f (ei 0), .f (eI [1, 2]), .f (eu 0)]]
abbrev tN (r : Store) : Store := oS :: .cells 0 3 [cFunc trF] :: .cells 0 3 [cFunc trG] :: .tok 1 [0] :: .tok 3 [0] :: .cells 0 2 [[.f (.sl []), .ap 4 0 []]] :: .tok 1 [0] :: .tok 3 [0] :: .cells 0 2 [[.f (.sl []), .ap 7 0 []]] :: r
abbrev tC (l1 : List Int) (t1 : List (List Fz)) (l2 : List Int) (t2 : List (List Fz)) (r : Store) : Store := oS :: .cells 0 3 [cFunc trF] :: .cells 0 3 [cFunc trG] :: .cells 1 1 (l1.map cb) :: .tok 1 [0] :: .tok 3 [t1.length] :: .cells 0 2 [[.own 3 1 0 l1.length, .ap 5 0 t1]] ::
  .cells 1 1 (l2.map cb) :: .tok 1 [0] :: .tok 3 [t2.length] :: .cells 0 2 [[.own 7 1 0 l2.length, .ap 9 0 t2]] :: r
abbrev bX (s : Int) : Ob := .cells 0 3 [[.f (ei 8), .f (eu 0), .f (ei s)]]
theorem memN1 (r : Store) (hr : r = [] ∨ (∃ s, r = [bX s]) ∨ ∃ s t, r = [bX s, bX t]) : MemO (tN r) 5 4 (.f (.sl [])) 0 [] := by
  refine ⟨rfl, rfl, rfl, by omega, by simp, ?_, by omega⟩
  unfold Ok
  rcases hr with rfl | ⟨s, rfl⟩ | ⟨s, t, rfl⟩ <;> rfl
theorem memN2 (r : Store) (hr : r = [] ∨ (∃ s, r = [bX s]) ∨ ∃ s t, r = [bX s, bX t]) : MemO (tN r) 8 7 (.f (.sl [])) 0 [] := by
  refine ⟨rfl, rfl, rfl, by omega, by simp, ?_, by omega⟩
  unfold Ok
  rcases hr with rfl | ⟨s, rfl⟩ | ⟨s, t, rfl⟩ <;> rfl
theorem ok_tC (l1 : List Int) (t1 : List (List Fz)) (l2 : List Int) (t2 : List (List Fz)) (r : Store) (hr : r = [] ∨ (∃ s, r = [bX s]) ∨ ∃ s t, r = [bX s, bX t]) : Ok (tC l1 t1 l2 t2 r) := by
  unfold Ok
  rcases hr with rfl | ⟨s, rfl⟩ | ⟨s, t, rfl⟩ <;> simp -implicitDefEqProofs only [go_sem, lt_cb]
theorem memC1 (l1 : List Int) (t1 : List (List Fz)) (l2 : List Int) (t2 : List (List Fz)) (r : Store) (h1 : l1.length ≤ 100) (h2 : t1.length ≤ 10) (hr : r = [] ∨ (∃ s, r = [bX s]) ∨ ∃ s t, r = [bX s, bX t]) : MemO (tC l1 t1 l2 t2 r) 6 5 (.own 3 1 0 l1.length) l1.length t1 :=
  ⟨rfl, rfl, rfl, by omega, by omega, ok_tC l1 t1 l2 t2 r hr, by omega⟩
theorem memC2 (l1 : List Int) (t1 : List (List Fz)) (l2 : List Int) (t2 : List (List Fz)) (r : Store) (h1 : l2.length ≤ 100) (h2 : t2.length ≤ 10) (hr : r = [] ∨ (∃ s, r = [bX s]) ∨ ∃ s t, r = [bX s, bX t]) : MemO (tC l1 t1 l2 t2 r) 10 9 (.own 7 1 0 l2.length) l2.length t2 :=
  ⟨rfl, rfl, rfl, by omega, by omega, ok_tC l1 t1 l2 t2 r hr, by omega⟩
theorem one_cb (l : List Int) : ∀ e ∈ l.map cb, ∃ c, e = rowC c := fun e he => by
  obtain ⟨c, _, rfl⟩ := List.mem_map.1 he
  exact ⟨c, rfl⟩
theorem wr_no {τ : Store} {mid tk n : Nat} {bc : C} (p : Nat) (v : Int) (hp : p < 256) (hv : 0 ≤ v ∧ v < 256) (h : ¬ p < n) : Wr τ mid tk bc n [] p v false τ :=
  ⟨hp, hv, by simp, fun _ => ⟨by omega, rfl⟩, fun h => by cases h⟩
theorem wr_C1 (l1 l2 : List Int) (t2 : List (List Fz)) (r : Store) (p : Nat) (v : Int) (hp : p < 256) (hv : 0 ≤ v ∧ v < 256) (h : p < l1.length) : Wr (tC l1 [] l2 t2 r) 6 5 (.own 3 1 0 l1.length) l1.length [] p v true (tC (l1.set p v) [touchW p v] l2 t2 r) := by
  refine ⟨hp, hv, by simp, (fun h => by cases h), fun _ => ⟨h, 3, l1.map cb, ⟨rfl, rfl, by simp, one_cb l1, by omega, by omega⟩, ?_⟩⟩
  simp only [tC, List.map_set, List.length_set]
  rfl
theorem wr_C2 (l1 l2 : List Int) (t1 : List (List Fz)) (r : Store) (p : Nat) (v : Int) (hp : p < 256) (hv : 0 ≤ v ∧ v < 256) (h : p < l2.length) : Wr (tC l1 t1 l2 [] r) 10 9 (.own 7 1 0 l2.length) l2.length [] p v true (tC l1 t1 (l2.set p v) [touchW p v] r) := by
  refine ⟨hp, hv, by simp, (fun h => by cases h), fun _ => ⟨h, 7, l2.map cb, ⟨rfl, rfl, by simp, one_cb l2, by omega, by omega⟩, ?_⟩⟩
  simp only [tC, List.map_set, List.length_set]
  rfl
theorem sbeq (s : ByteArray) : Value.beq (.string s) (.string s) = true := by simp [Value.beq]
set_option maxRecDepth 10000 in
set_option maxHeartbeats 4000000 in
theorem Traps_nil (p : Nat) (v : Int) (hp : p < 256) (hv : 0 ≤ v ∧ v < 256) :
    call T F.locksteplaw13_EvalTraps [vL [], .one (.f (.lit (.int .u8 p))), .one (.f (.lit (.int .u8 v)))] [] = some (vB true, []) := by
  rw [call_eq (fn := a_locksteplaw13_EvalTraps) rfl]
  have hA := awake13
  have hN := New_nil
  have w1 : IntKind.u64.wrap p = p := wrap_u64 (by omega) (by omega)
  have w2 : IntKind.u64.wrap v = v := wrap_u64 (by omega) (by omega)
  have w3 : IntKind.i64.wrap p = p := by rw [wrap_i64] <;> omega
  have z2 : ((p : Int) ≥ 0) = True := by simp
  have z3 : ((p : Int) ≥ ((0 : Nat) : Int)) = True := by simp
  have hR1 := Run_trF (memN1 [] (.inl rfl)) (wr_no (τ := tN []) (mid := 5) (tk := 4) (bc := .f (.sl [])) p v hp hv (by omega))
  have hR2 := Run_trG (memN2 [bX 1] (.inr (.inl ⟨_, rfl⟩))) (wr_no (τ := tN [bX 1]) (mid := 8) (tk := 7) (bc := .f (.sl [])) p v hp hv (by omega))
  have hB1 := Bytes_nil (memN1 [bX 1, bX 1] (.inr (.inr ⟨_, _, rfl⟩))) rfl
  have hB2 := Bytes_nil (memN2 [bX 1, bX 1] (.inr (.inr ⟨_, _, rfl⟩))) rfl
  have hT1 := Trace_call (memN1 [bX 1, bX 1] (.inr (.inr ⟨_, _, rfl⟩))) rfl
  simp -implicitDefEqProofs only [go_sem, trF, trG, List.map_cons, List.map_nil, rb, ro, rp, ri, ru, ei, eu, eI, tN, oS, rR, cFunc, Bool.false_eq_true] at hN hR1 hR2 hB1 hB2 hT1
  simp -implicitDefEqProofs only [go_sem, a_locksteplaw13_EvalTraps, hA, hN, w1, w2, w3, hR1, hR2, hB1, hB2, hT1, beq_self_eq_true, z2, z3, sbeq, bytesOf, bytesOf_ub, vstr]
theorem shifts_cells (k : Nat) (l : List Int) : (l.map cb).map (C.shifts k) = l.map cb := shifts_cb k l
set_option maxRecDepth 10000 in
set_option maxHeartbeats 4000000 in
theorem Traps_out (p : Nat) (v : Int) (hp : p < 256) (hv : 0 ≤ v ∧ v < 256) (bs : List Int) (hne : bs ≠ []) (hlen : bs.length ≤ 100) (ho : ¬ p < bs.length) :
    call T F.locksteplaw13_EvalTraps [vL (bs.map ub), .one (.f (.lit (.int .u8 p))), .one (.f (.lit (.int .u8 v)))] [] = some (vB true, []) := by
  rw [call_eq (fn := a_locksteplaw13_EvalTraps) rfl]
  have hA := awake13
  have hN := New_ne bs hne (by omega)
  have w1 : IntKind.u64.wrap p = p := wrap_u64 (by omega) (by omega)
  have w2 : IntKind.u64.wrap v = v := wrap_u64 (by omega) (by omega)
  have w3 : IntKind.i64.wrap p = p := by rw [wrap_i64] <;> omega
  have h4 : ((bs.length : Int) > 100) = False := by simp; omega
  have z2 : ((p : Int) ≥ (bs.length : Int)) = True := by simp; omega
  have hsh := fun k => shifts_cb k bs
  have hR1 := Run_trF (memC1 bs [] bs [] [] hlen (by simp) (.inl rfl)) (wr_no p v hp hv ho)
  have hR2 := Run_trG (memC2 bs [] bs [] [bX 1] hlen (by simp) (.inr (.inl ⟨_, rfl⟩))) (wr_no p v hp hv ho)
  have hB1 := Bytes_row (memC1 bs [] bs [] [bX 1, bX 1] hlen (by simp) (.inr (.inr ⟨_, _, rfl⟩))) 3 bs hne (by omega) rfl rfl
  have hB2 := Bytes_row (memC2 bs [] bs [] [bX 1, bX 1] hlen (by simp) (.inr (.inr ⟨_, _, rfl⟩))) 7 bs hne (by omega) rfl rfl
  have hT1 := Trace_call (memC1 bs [] bs [] [bX 1, bX 1] hlen (by simp) (.inr (.inr ⟨_, _, rfl⟩))) rfl
  simp -implicitDefEqProofs only [go_sem, trF, trG, List.map_cons, List.map_nil, rb, ro, rp, ri, ru, ei, eu, eI, tC, oS, rR, cFunc, Bool.false_eq_true] at hN hR1 hR2 hB1 hB2 hT1
  simp -implicitDefEqProofs only [go_sem, a_locksteplaw13_EvalTraps, hA, hN, w1, w2, w3, hR1, hR2, hB1, hB2, hT1, beq_self_eq_true, h4, z2, sbeq, hsh, bytesOf_ub, vstr, List.length_map]
set_option maxRecDepth 10000 in
set_option maxHeartbeats 4000000 in
theorem Traps_in (p : Nat) (v : Int) (hp : p < 256) (hv : 0 ≤ v ∧ v < 256) (bs : List Int) (hne : bs ≠ []) (hlen : bs.length ≤ 100) (ho : p < bs.length) :
    call T F.locksteplaw13_EvalTraps [vL (bs.map ub), .one (.f (.lit (.int .u8 p))), .one (.f (.lit (.int .u8 v)))] [] = some (vB true, []) := by
  rw [call_eq (fn := a_locksteplaw13_EvalTraps) rfl]
  have hA := awake13
  have hN := New_ne bs hne (by omega)
  have w1 : IntKind.u64.wrap p = p := wrap_u64 (by omega) (by omega)
  have w2 : IntKind.u64.wrap v = v := wrap_u64 (by omega) (by omega)
  have w3 : IntKind.i64.wrap p = p := by rw [wrap_i64] <;> omega
  have h4 : ((bs.length : Int) > 100) = False := by simp; omega
  have z2 : ((p : Int) ≥ (bs.length : Int)) = False := by simp; omega
  have hsh := fun k => shifts_cb k bs
  obtain ⟨cs, hcs⟩ : ∃ cs, cs = bs.set p v := ⟨_, rfl⟩
  have hcl : cs.length = bs.length := by rw [hcs, List.length_set]
  have hcn : cs ≠ [] := fun h => hne (List.eq_nil_of_length_eq_zero (by rw [← hcl, h]; rfl))
  have hR1 := Run_trF (memC1 bs [] bs [] [] hlen (by simp) (.inl rfl)) (wr_C1 bs bs [] [] p v hp hv ho)
  have hR2 := Run_trG (memC2 cs [touchW p v] bs [] [bX 2] hlen (by simp) (.inr (.inl ⟨_, rfl⟩))) (wr_C2 cs bs [touchW p v] [bX 2] p v hp hv ho)
  rw [← hcs] at hR1 hR2
  have hB1 := Bytes_row (memC1 cs [touchW p v] cs [touchW p v] [bX 2, bX 3] (by omega) (by simp) (.inr (.inr ⟨_, _, rfl⟩))) 3 cs hcn (by omega) rfl rfl
  have hB2 := Bytes_row (memC2 cs [touchW p v] cs [touchW p v] [bX 2, bX 3] (by omega) (by simp) (.inr (.inr ⟨_, _, rfl⟩))) 7 cs hcn (by omega) rfl rfl
  have hT1 := Trace_call (memC1 cs [touchW p v] cs [touchW p v] [bX 2, bX 3] (by omega) (by simp) (.inr (.inr ⟨_, _, rfl⟩))) rfl
  have hk : p < cs.length := by omega
  have hg := getr (r := ub) hk
  have hcv : cs[p] = v := by subst hcs; simp
  simp -implicitDefEqProofs only [go_sem, trF, trG, List.map_cons, List.map_nil, rb, ro, rp, ri, ru, ei, eu, eI, tC, oS, rR, cFunc, Bool.false_eq_true, touchW, hcl] at hN hR1 hR2 hB1 hB2 hT1
  simp -implicitDefEqProofs only [go_sem, a_locksteplaw13_EvalTraps, hA, hN, w1, w2, w3, hR1, hR2, hB1, hB2, hT1, beq_self_eq_true, h4, z2, sbeq, hsh, bytesOf_ub, vstr, List.length_map, hcl, hg, hcv, ub]
  rfl
theorem Traps_call (p v : Int) (bs : List Int) (hp : 0 ≤ p ∧ p < 256) (hv : 0 ≤ v ∧ v < 256) :
    call T F.locksteplaw13_EvalTraps [vL (bs.map ub), .one (.f (.lit (.int .u8 p))), .one (.f (.lit (.int .u8 v)))] [] = some (vB true, []) := by
  obtain ⟨k, rfl⟩ : ∃ k : Nat, p = k := ⟨p.toNat, by omega⟩
  by_cases h1 : 100 < bs.length
  · exact Traps_long k v bs h1
  · by_cases h2 : bs = []
    · subst h2
      exact Traps_nil k v (by omega) hv
    · by_cases h3 : k < bs.length
      · exact Traps_in k v (by omega) hv bs h2 (by omega) h3
      · exact Traps_out k v (by omega) hv bs h2 (by omega) h3
end AC
