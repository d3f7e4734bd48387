import Derived.Test.YtecjccggbbbaaaaGreatKO
set_option linter.unusedVariables false
set_option linter.unusedSimpArgs false
namespace AC
open Go Go.A Go.A.Lex
theorem call_ext' {n : Nat} {g : List A.V → Store → Option (A.V × Store)} (h : T n = some (.ext g)) (args : List A.V) (σ : Store) : call T n args σ = g args σ := by
  simp only [call, callW, h]
def ub (x : Int) : List Fz := [.lit (.int .u8 x)]
def cb (x : Int) : List C := [.f (.lit (.int .u8 x))]
theorem ub_cb (l : List Int) : (l.map ub).map (fun e => e.map C.f) = l.map cb := by
  rw [List.map_map]
  rfl
theorem shifts_cb (k : Nat) (l : List Int) : (l.map cb).map (C.shifts k) = l.map cb := by
  rw [List.map_map]
  rfl
theorem okSz_ub (l : List Int) : okSz 1 (l.map ub) = true := by
  induction l with
  | nil => rfl
  | cons x l ih => rw [List.map_cons, okSz, ih]; rfl
theorem New_nil : call T F.mem_New [vL []] [] = some (.tup [.one (cP 2), vI 0], [.tok 1 [0], .tok 3 [0], .cells 0 2 [[.f (.sl []), .ap 1 0 []]]]) := by
  rw [call_eq (fn := a_mem_New) rfl]
  have hb : call T F.bytes_Clone [vL []] [] = some (vL [], []) := by
    rw [call_ext' (g := extBytes 1) rfl]
    simp [extBytes, okSz, LIM]
  simp -implicitDefEqProofs only [go_sem] at hb
  simp -implicitDefEqProofs only [go_sem, a_mem_New, hb]
theorem New_cons (x : Int) (l : List Int) (hl : l.length < 100) : call T F.mem_New [vL ((x :: l).map ub)] [] = some (.tup [.one (cP 3), vI 0], [.cells 1 1 ((x :: l).map cb), .tok 1 [0], .tok 3 [0], .cells 0 2 [[.own 0 1 0 (l.length + 1), .ap 2 0 []]]]) := by
  rw [call_eq (fn := a_mem_New) rfl]
  have hb : call T F.bytes_Clone [vL ((x :: l).map ub)] [] = some (.one (.own 0 1 0 (l.length + 1)), [.cells 1 1 ((x :: l).map cb)]) := by
    rw [call_ext' (g := extBytes 1) rfl]
    have h2 : ((x :: l).map ub).length ≤ LIM := by simp [LIM]; omega
    unfold extBytes
    simp only []
    rw [if_pos ⟨okSz_ub _, h2⟩, if_neg (by simp), ub_cb, List.length_map]
    rfl
  obtain ⟨b, hb'⟩ : ∃ b, b = (x :: l).map ub := ⟨_, rfl⟩
  obtain ⟨r, hr'⟩ : ∃ r, r = (x :: l).map cb := ⟨_, rfl⟩
  have h4 : ¬ ((b.length : Int) > 4096) := by rw [hb', List.length_map, List.length_cons]; omega
  have hs : r.map (C.shifts 0) = r := by rw [hr']; exact shifts_cb 0 _
  rw [← hb', ← hr'] at hb
  rw [← hb', ← hr']
  simp -implicitDefEqProofs only [go_sem] at hb h4
  simp -implicitDefEqProofs only [go_sem, a_mem_New, hb, h4, hs]
end AC

namespace AC
open Go Go.A Go.A.Lex
set_option maxRecDepth 10000 in
set_option maxHeartbeats 1000000 in
theorem Split_long (so : Bool) (p v : Int) (bs : List Int) (h : 100 < bs.length) :
    call T F.locksteplaw24_SplitSteps [vB so, .agg [.f (.lit (.int .u8 p)), .f (.lit (.int .u8 v))], vL (bs.map ub)] [] = some (vB true, []) := by
  rw [call_eq (fn := a_locksteplaw24_SplitSteps) rfl]
  have n2 : ((2 : Nat) : Int) = 2 := rfl
  have hA := awake24
  have h4 : ((bs.length : Int) > 100) = True := by simp; omega
  simp -implicitDefEqProofs only [go_sem, a_locksteplaw24_SplitSteps, n2, hA, List.length_map, h4]
abbrev oH (p v : Int) : Ob := .cells 0 2 [[.f (.lit (.int .u8 p)), .f (.lit (.int .u8 v))]]
abbrev sN (p v : Int) (r : Store) : Store := oH p v :: .cells 0 3 [cFunc oneF] :: .cells 0 3 [cFunc twoF] :: .tok 1 [0] :: .tok 3 [0] :: .cells 0 2 [[.f (.sl []), .ap 4 0 []]] :: r
abbrev sC (p v : Int) (l : List Int) (tr : List (List Fz)) (r : Store) : Store := oH p v :: .cells 0 3 [cFunc oneF] :: .cells 0 3 [cFunc twoF] :: .cells 1 1 (l.map cb) :: .tok 1 [0] :: .tok 3 [tr.length] :: .cells 0 2 [[.own 3 1 0 l.length, .ap 5 0 tr]] :: r
theorem lt_cb (n : Nat) (l : List Int) : C.ltss n (l.map cb) = true := by
  induction l with
  | nil => rfl
  | cons x l ih => rw [List.map_cons, C.ltss, ih]; rfl
theorem mem_N (p v c w s : Int) (r : Store) (hr : r = [] ∨ r = [bR c w s]) : MemO (sN p v r) 5 4 (.f (.sl [])) 0 [] := by
  refine ⟨rfl, rfl, rfl, by omega, by simp, ?_, by omega⟩
  unfold Ok
  rcases hr with rfl | rfl <;> rfl
theorem mem_C (p v c w s : Int) (l : List Int) (hl : l.length ≤ 100) (tr : List (List Fz)) (htr : tr.length ≤ 10) (r : Store) (hr : r = [] ∨ r = [bR c w s]) : MemO (sC p v l tr r) 6 5 (.own 3 1 0 l.length) l.length tr := by
  refine ⟨rfl, rfl, rfl, by omega, by omega, ?_, by omega⟩
  have := lt_cb
  unfold Ok
  rcases hr with rfl | rfl <;> simp -implicitDefEqProofs only [go_sem, lt_cb]
theorem byte_N (p : Nat) (hp : p < 256) (v c w s : Int) (r : Store) : Byte (sN p v r) 5 4 (.f (.sl [])) 0 [] p none (sN p v r) :=
  ⟨hp, by simp, fun _ => ⟨by omega, rfl⟩, fun c h => by cases h⟩
theorem byte_C_no (p : Nat) (hp : p < 256) (v : Int) (l : List Int) (hl : ¬ p < l.length) (r : Store) : Byte (sC p v l [] r) 6 5 (.own 3 1 0 l.length) l.length [] p none (sC p v l [] r) :=
  ⟨hp, by simp, fun _ => ⟨by omega, rfl⟩, fun c h => by cases h⟩
theorem byte_C (p : Nat) (hp : p < 256) (v : Int) (l : List Int) (hb : ∀ x ∈ l, 0 ≤ x ∧ x < 256) (hl : p < l.length) (tr : List (List Fz)) (htr : tr.length ≤ 10) (r : Store) : Byte (sC p v l tr r) 6 5 (.own 3 1 0 l.length) l.length tr p (some l[p]) (sC p v l (tr ++ [touchF p l[p]]) r) := by
  refine ⟨hp, by omega, fun h => (by cases h), fun c h => ?_⟩
  injection h with h
  subst h
  refine ⟨3, l.map cb, rfl, hl, rfl, by simp [hl, cb], hb _ (List.getElem_mem hl), rfl⟩
set_option maxRecDepth 10000 in
set_option maxHeartbeats 1000000 in
theorem Split_nil_no (p : Nat) (v : Int) (hp : p < 256) (hv : 0 ≤ v ∧ v < 256) :
    call T F.locksteplaw24_SplitSteps [vB false, .agg [.f (.lit (.int .u8 p)), .f (.lit (.int .u8 v))], vL []] [] = some (vB true, []) := by
  rw [call_eq (fn := a_locksteplaw24_SplitSteps) rfl]
  have n2 : ((2 : Nat) : Int) = 2 := rfl
  have hA := awake24
  have hS := split_all
  have hN := New_nil
  have w1 : IntKind.u64.wrap p = p := wrap_u64 (by omega) (by omega)
  have w2 : IntKind.u64.wrap v = v := wrap_u64 (by omega) (by omega)
  have hR1 := Run_one_no (mem_N p v 0 0 0 [] (.inl rfl)) v hv hp
  have hR2 := Run_two_no (mem_N p v 0 v 2 [bR 0 v 2] (.inr rfl)) v hv hp
  simp -implicitDefEqProofs only [go_sem, oneF, twoF, List.map_cons, List.map_nil, rb, ro, rp, ri, ru, ei, eu, eI, sN, oH, rR, cFunc] at hS hN hR1 hR2
  simp -implicitDefEqProofs only [go_sem, a_locksteplaw24_SplitSteps, n2, hA, hS, hN, w1, w2, hR1, hR2, beq_self_eq_true]
theorem New_ne (bs : List Int) (h : bs ≠ []) (hl : bs.length ≤ 100) : call T F.mem_New [vL (bs.map ub)] [] = some (.tup [.one (cP 3), vI 0], [.cells 1 1 (bs.map cb), .tok 1 [0], .tok 3 [0], .cells 0 2 [[.own 0 1 0 bs.length, .ap 2 0 []]]]) := by
  cases bs with
  | nil => exact absurd rfl h
  | cons x l => exact New_cons x l (by simp at hl; omega)
set_option maxRecDepth 10000 in
set_option maxHeartbeats 1000000 in
theorem Split_nil_yes (p : Nat) (v : Int) (hp : p < 256) (hv : 0 ≤ v ∧ v < 256) :
    call T F.locksteplaw24_SplitSteps [vB true, .agg [.f (.lit (.int .u8 p)), .f (.lit (.int .u8 v))], vL []] [] = some (vB true, []) := by
  rw [call_eq (fn := a_locksteplaw24_SplitSteps) rfl]
  have n2 : ((2 : Nat) : Int) = 2 := rfl
  have hA := awake24
  have hS := split_all
  have w1 : IntKind.u64.wrap p = p := wrap_u64 (by omega) (by omega)
  have w2 : IntKind.u64.wrap v = v := wrap_u64 (by omega) (by omega)
  have w3 : IntKind.i64.wrap p = p := by rw [wrap_i64] <;> omega
  have hN := New_nil
  have z1 : ((p : Int) < 0) = False := by simp
  have z2 : ((p : Int) ≥ 0) = True := by simp
  have hR1 := Run_one_trap (mem_N p v 0 0 0 [] (.inl rfl)) (byte_N p hp v 0 0 0 []) v hv rfl
  have hR2 := Run_two_trap (mem_N p v 8 0 1 [bR 8 0 1] (.inr rfl)) (byte_N p hp v 0 0 0 [bR 8 0 1]) v hv rfl
  simp -implicitDefEqProofs only [go_sem, oneF, twoF, List.map_cons, List.map_nil, rb, ro, rp, ri, ru, ei, eu, eI, sN, sC, oH, rR, cFunc] at hS hN hR1 hR2
  simp -implicitDefEqProofs only [go_sem, a_locksteplaw24_SplitSteps, n2, hA, hS, hN, w1, w2, w3, hR1, hR2, beq_self_eq_true, z1, z2]
set_option maxRecDepth 10000 in
set_option maxHeartbeats 1000000 in
theorem Split_no (p : Nat) (v : Int) (hp : p < 256) (hv : 0 ≤ v ∧ v < 256) (bs : List Int) (hne : bs ≠ []) (hlen : bs.length ≤ 100) :
    call T F.locksteplaw24_SplitSteps [vB false, .agg [.f (.lit (.int .u8 p)), .f (.lit (.int .u8 v))], vL (bs.map ub)] [] = some (vB true, []) := by
  rw [call_eq (fn := a_locksteplaw24_SplitSteps) rfl]
  have n2 : ((2 : Nat) : Int) = 2 := rfl
  have hA := awake24
  have hS := split_all
  have w1 : IntKind.u64.wrap p = p := wrap_u64 (by omega) (by omega)
  have w2 : IntKind.u64.wrap v = v := wrap_u64 (by omega) (by omega)
  have w3 : IntKind.i64.wrap p = p := by rw [wrap_i64] <;> omega
  have hN := New_ne bs hne hlen
  have h4 : ((bs.length : Int) > 100) = False := by simp; omega
  have hsh := shifts_cb 3 bs
  have hR1 := Run_one_no (mem_C p v 0 0 0 bs hlen [] (by simp) [] (.inl rfl)) v hv hp
  have hR2 := Run_two_no (mem_C p v 0 v 2 bs hlen [] (by simp) [bR 0 v 2] (.inr rfl)) v hv hp
  simp -implicitDefEqProofs only [go_sem, oneF, twoF, List.map_cons, List.map_nil, rb, ro, rp, ri, ru, ei, eu, eI, sN, sC, oH, rR, cFunc] at hS hN hR1 hR2
  simp -implicitDefEqProofs only [go_sem, a_locksteplaw24_SplitSteps, n2, hA, hS, hN, w1, w2, w3, hR1, hR2, beq_self_eq_true, h4, hsh]
set_option maxRecDepth 10000 in
set_option maxHeartbeats 1000000 in
theorem Split_out (p : Nat) (v : Int) (hp : p < 256) (hv : 0 ≤ v ∧ v < 256) (bs : List Int) (hne : bs ≠ []) (hlen : bs.length ≤ 100) (ho : ¬ p < bs.length) :
    call T F.locksteplaw24_SplitSteps [vB true, .agg [.f (.lit (.int .u8 p)), .f (.lit (.int .u8 v))], vL (bs.map ub)] [] = some (vB true, []) := by
  rw [call_eq (fn := a_locksteplaw24_SplitSteps) rfl]
  have n2 : ((2 : Nat) : Int) = 2 := rfl
  have hA := awake24
  have hS := split_all
  have w1 : IntKind.u64.wrap p = p := wrap_u64 (by omega) (by omega)
  have w2 : IntKind.u64.wrap v = v := wrap_u64 (by omega) (by omega)
  have w3 : IntKind.i64.wrap p = p := by rw [wrap_i64] <;> omega
  have hN := New_ne bs hne hlen
  have h4 : ((bs.length : Int) > 100) = False := by simp; omega
  have hsh := shifts_cb 3 bs
  have z1 : ((p : Int) < (bs.length : Int)) = False := by simp; omega
  have z2 : ((p : Int) ≥ (bs.length : Int)) = True := by simp; omega
  have hR1 := Run_one_trap (mem_C p v 0 0 0 bs hlen [] (by simp) [] (.inl rfl)) (byte_C_no p hp v bs ho []) v hv rfl
  have hR2 := Run_two_trap (mem_C p v 8 0 1 bs hlen [] (by simp) [bR 8 0 1] (.inr rfl)) (byte_C_no p hp v bs ho [bR 8 0 1]) v hv rfl
  simp -implicitDefEqProofs only [go_sem, oneF, twoF, List.map_cons, List.map_nil, rb, ro, rp, ri, ru, ei, eu, eI, sN, sC, oH, rR, cFunc] at hS hN hR1 hR2
  simp -implicitDefEqProofs only [go_sem, a_locksteplaw24_SplitSteps, n2, hA, hS, hN, w1, w2, w3, hR1, hR2, beq_self_eq_true, h4, hsh, z1, z2, List.length_map]
set_option maxRecDepth 10000 in
set_option maxHeartbeats 1000000 in
theorem Split_in (p : Nat) (v : Int) (hp : p < 256) (hv : 0 ≤ v ∧ v < 256) (bs : List Int) (hne : bs ≠ []) (hlen : bs.length ≤ 100) (hb : ∀ x ∈ bs, 0 ≤ x ∧ x < 256) (ho : p < bs.length) :
    call T F.locksteplaw24_SplitSteps [vB true, .agg [.f (.lit (.int .u8 p)), .f (.lit (.int .u8 v))], vL (bs.map ub)] [] = some (vB true, []) := by
  rw [call_eq (fn := a_locksteplaw24_SplitSteps) rfl]
  have n2 : ((2 : Nat) : Int) = 2 := rfl
  have hA := awake24
  have hS := split_all
  have w1 : IntKind.u64.wrap p = p := wrap_u64 (by omega) (by omega)
  have w2 : IntKind.u64.wrap v = v := wrap_u64 (by omega) (by omega)
  have w3 : IntKind.i64.wrap p = p := by rw [wrap_i64] <;> omega
  have hN := New_ne bs hne hlen
  have h4 : ((bs.length : Int) > 100) = False := by simp; omega
  have hsh := shifts_cb 3 bs
  have z1 : ((p : Int) < (bs.length : Int)) = True := by simp; omega
  have z2 : ((p : Int) ≥ (bs.length : Int)) = False := by simp; omega
  have hg := getr (r := ub) ho
  have hbp := hb bs[p] (List.getElem_mem ho)
  have w4 : IntKind.u64.wrap bs[p] = bs[p] := wrap_u64 (by omega) (by omega)
  have hR1 := Run_one_yes (mem_C p v 0 0 0 bs hlen [] (by simp) [] (.inl rfl)) (byte_C p hp v bs hb ho [] (by simp) []) v hv bs[p] rfl
  have hR2 := Run_two_yes (mem_C p v 0 bs[p] 2 bs hlen [touchF p bs[p]] (by simp) [bR 0 bs[p] 2] (.inr rfl)) (byte_C p hp v bs hb ho [touchF p bs[p]] (by simp) [bR 0 bs[p] 2]) v hv bs[p] rfl
  simp -implicitDefEqProofs only [go_sem, oneF, twoF, List.map_cons, List.map_nil, rb, ro, rp, ri, ru, ei, eu, eI, sN, sC, oH, rR, cFunc] at hS hN hR1 hR2
  simp -implicitDefEqProofs only [go_sem, a_locksteplaw24_SplitSteps, n2, hA, hS, hN, w1, w2, w3, hR1, hR2, beq_self_eq_true, h4, hsh, z1, z2, hg, ub, w4, List.length_map]
end AC

namespace AC
open Go Go.A Go.A.Lex
theorem Split_call (so : Bool) (p v : Int) (bs : List Int) (hp : 0 ≤ p ∧ p < 256) (hv : 0 ≤ v ∧ v < 256) (hb : ∀ x ∈ bs, 0 ≤ x ∧ x < 256) :
    call T F.locksteplaw24_SplitSteps [vB so, .agg [.f (.lit (.int .u8 p)), .f (.lit (.int .u8 v))], vL (bs.map ub)] [] = some (vB true, []) := by
  obtain ⟨k, rfl⟩ : ∃ k : Nat, p = k := ⟨p.toNat, by omega⟩
  by_cases h1 : 100 < bs.length
  · exact Split_long so k v bs h1
  · by_cases h2 : bs = []
    · subst h2
      cases so with
      | false => exact Split_nil_no k v (by omega) hv
      | true => exact Split_nil_yes k v (by omega) hv
    · cases so with
      | false => exact Split_no k v (by omega) hv bs h2 (by omega)
      | true =>
        by_cases h3 : k < bs.length
        · exact Split_in k v (by omega) hv bs h2 (by omega) hb h3
        · exact Split_out k v (by omega) hv bs h2 (by omega) h3
end AC
