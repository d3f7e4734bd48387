import Derived.Test.YtafckkajjloleaaGreatKH
set_option linter.unusedVariables false
set_option linter.unusedSimpArgs false
set_option linter.unusedSectionVars false
namespace AC
open Go Go.A Go.A.Lex
/-- An operation that hangs on nothing, wherever it stands. -/
def quiet (o : POp) : Prop := o.args = [] ∧ pure o.kind = true ∧ 0 < o.dst
def rowAt (n k : Nat) : List (List C) := List.replicate k [.f (.sl [])] ++ (List.range (n - k)).map fun i => [.own (1 + k + i) 0 0 0]
structure HInv (n k : Nat) (σ : Store) : Prop where
  len : σ.length ≤ n + 4 + k
  len2 : n + 4 ≤ σ.length
  main : ∃ es, σ[n + 1]? = some (.cells 0 1 es) ∧ es.length = n ∧ (∀ i, i < k → es[i]? = some [.f (.sl [])]) ∧ ∀ i, k ≤ i → i < n → es[i]? = some [.own (1 + i) 0 0 0]
  rows : ∀ i, k ≤ i → i < n → σ[1 + i]? = some (.cells 0 1 [])
  map : ∃ es, σ[n + 2]? = some (.mp es)
def _root_.Go.A.Ob.entriesD : Ob → List (Int × V)
  | .mp es => es
  | _ => []
section
variable (b : PBlock) (hb : okB b) (hq : ∀ o ∈ b.ops, quiet o) (n : Nat) (hn : n = b.ops.length) (hn2 : n ≤ 1000)
include hb hq hn hn2
theorem hangs_l1 : ∀ (d k : Nat) (σ : Store) (a0 a1 a2 a6 a7 a8 a9 a10 a14 a15 a16 a17 a18 a19 a20 a21 : V), n - k = d → k ≤ n → HInv n k σ → ∃ σ', HInv n n σ' ∧
    exec T sched_hangs_l1 ⟨[a0, a1, a2, .one (.own (n + 1) 0 0 n), .one (.map (n + 2)), .one (.ap (n + 3) 0 []), a6, a7, a8, a9, a10, vL (b.ops.map ro), vI n, vI k, a14, a15, a16, a17, a18, a19, a20, a21], σ, 0, 0⟩ =
      some (.exit 0, ⟨[vU, vU, vU, .one (.own (n + 1) 0 0 n), vU, vU, vU, vU, vU, vU, vU, vU, vU, vU, vU, vU, vU, vU, vU, vU, vU, vU], σ', 0, 0⟩) := by
  intro d
  induction d with
  | zero =>
    intro k σ a0 a1 a2 a6 a7 a8 a9 a10 a14 a15 a16 a17 a18 a19 a20 a21 h1 h2 hI
    have hk : k = n := by omega
    subst hk
    have hlen' := hI.len
    have hd : (σ.length ≤ 1000000) = True := by simp; omega
    refine ⟨σ, hI, ?_⟩
    rw [sched_hangs_l1_eq, sched_hangs_b1]
    simp -implicitDefEqProofs only [go_sem, Int.lt_irrefl, hd]
  | succ d ih =>
    intro k σ a0 a1 a2 a6 a7 a8 a9 a10 a14 a15 a16 a17 a18 a19 a20 a21 h1 h2 hI
    have hk : k < b.ops.length := by omega
    obtain ⟨es, hm1, hm2, hm3, hm4⟩ := hI.main
    obtain ⟨ms, hmap⟩ := hI.map
    obtain ⟨q1, q2, q3⟩ := hq _ (List.getElem_mem hk)
    have hr := hI.rows k (Nat.le_refl _) (by omega)
    have hp := kind_Pure_call b.ops[k].kind
    rw [q2] at hp
    have r1 := fun r => get_low hmap r
    have r2 := fun r => get_low hm1 r
    have r3 := fun r => get_low hr r
    have s1 : ∀ (τ : Store) o, (τ.set (n + 2) o)[n + 1]? = τ[n + 1]? := fun τ o => List.getElem?_set_ne (by omega)
    have s2 : ∀ (τ : Store) o, (τ.set (n + 2) o)[1 + k]? = τ[1 + k]? := fun τ o => List.getElem?_set_ne (by omega)
    have s3 : ∀ (τ : Store) o, (τ.set (1 + k) o)[n + 1]? = τ[n + 1]? := fun τ o => List.getElem?_set_ne (by omega)
    have s4 : ∀ (τ : Store) o, (1 + k < τ.length) → (τ.set (1 + k) o)[1 + k]? = some o := fun τ o h => by simp [h]
    have hlen := hI.len2
    have hlen' := hI.len
    have l1 : (1 + k < σ.length + 1) = True := by simp; omega
    have es0 : sortI [] = [] := by simp [sortI]
    have hS : ∀ τ : Store, τ[1 + k]? = some (.cells 0 1 []) → call T F.slices_Sort_int [.one (.own (1 + k) 0 0 0)] τ = some (.tup [], τ.set (1 + k) (.cells 0 1 [])) := fun τ h => by
      have := Sort_call [] 0 rfl (by omega) τ (1 + k) 0 h
      rw [es0] at this
      exact this
    have hC : ∀ τ : Store, τ[1 + k]? = some (.cells 0 1 []) → call T F.slices_Compact_int [.one (.own (1 + k) 0 0 0)] τ = some (vL [], τ.set (1 + k) (.cells 1 1 [])) := fun τ h => Compact_call [] 0 rfl (by omega) τ (1 + k) h
    have hk2 : ((k : Int) < (n : Int)) = True := by simp; omega
    have hk3 : (k < n) = True := by simp; omega
    have hek := hm4 k (Nat.le_refl _) (by omega)
    have hd : (σ.length + 1 ≤ 1000000) = True := by simp; omega
    have hka : (k + 1 ≤ n) = True := by simp; omega
    have hke : es.length = n := hm2
    rw [sched_hangs_l1_eq, sched_hangs_b1]
    simp -implicitDefEqProofs only [go_sem] at hp hS hC
    simp -implicitDefEqProofs only [go_sem, hk2, hk3, ilt hk, getr hk, ro, q1, sched_hangs_l0_eq, sched_hangs_b0, hp, q3, r1, r2, r3, s1, s2, s3, s4, l1, hS, hC, hek, hd, hka, hke, Int.natCast_nonneg, Int.toNat_natCast, wrap_succ hk hb.ops, List.length_set, List.length_append]
    have hI' : ∀ (o X Y W : Ob), HInv n (k + 1) (((((σ ++ [o]).set (n + 2) (Ob.mp W.entriesD)).set (1 + k) X).set (1 + k) Y).set (n + 1) (Ob.cells 0 1 (es.set k [C.f (Fz.sl [])]))) := fun o X Y W => by
      refine ⟨by simp only [List.length_set, List.length_append, List.length_cons, List.length_nil]; omega, by simp only [List.length_set, List.length_append, List.length_cons, List.length_nil]; omega, ⟨es.set k [.f (.sl [])], ?_, by rw [List.length_set]; exact hm2, fun i hi => ?_, fun i h1 h2 => ?_⟩, fun i h1 h2 => ?_, ⟨W.entriesD, ?_⟩⟩
      · rw [List.getElem?_set_self (by simp only [List.length_set, List.length_append, List.length_cons, List.length_nil]; omega)]
      · by_cases c : i = k
        · subst c
          rw [List.getElem?_set_self (by omega)]
        · rw [List.getElem?_set_ne (by omega)]
          exact hm3 i (by omega)
      · rw [List.getElem?_set_ne (by omega)]
        exact hm4 i (by omega) h2
      · rw [List.getElem?_set_ne (by omega), List.getElem?_set_ne (by omega), List.getElem?_set_ne (by omega), List.getElem?_set_ne (by omega)]
        exact get_low (hI.rows i (by omega) h2) _
      · rw [List.getElem?_set_ne (by omega), List.getElem?_set_ne (by omega), List.getElem?_set_ne (by omega), List.getElem?_set_self (by simp only [List.length_append, List.length_cons, List.length_nil]; omega)]
    have h := hI' (.cells 0 6 [[C.f (Fz.lit (Value.int IntKind.i64 b.ops[k].kind)), C.f (Fz.lit (Value.int IntKind.i64 b.ops[k].bits)), C.f (Fz.lit (Value.int IntKind.i64 b.ops[k].lanes)), C.f (Fz.lit (Value.int IntKind.i64 b.ops[k].dst)), C.f (Fz.sl []), C.f (Fz.lit (Value.int IntKind.u64 b.ops[k].imm))]]) (.cells 0 1 []) (.cells 1 1 []) (.mp (mput b.ops[k].dst (V.one (C.f (Fz.lit (Value.int IntKind.i64 ↑k)))) ms))
    have := ih (k + 1) _ vU vU vU vU vU vU vU vU vU vU vU vU vU vU vU vU (by omega) (by omega) h
    simp -implicitDefEqProofs only [go_sem, Ob.entriesD] at this
    exact this
omit hb hq hn hn2 in
theorem row_cells : ∀ (es : List (List C)), (∀ i, i < es.length → es[i]? = some [.f (.sl [])]) → frzRows es = some (List.replicate es.length [.sl []])
  | [], _ => rfl
  | e :: r, h => by
    have h0 := h 0 (by simp)
    simp only [List.getElem?_cons_zero, Option.some.injEq] at h0
    have ih := row_cells r fun i hi => by have := h (i + 1) (by simpa using hi); simpa using this
    subst h0
    simp [frzRows, ih, frzRow, frzC, ocons, List.replicate_succ]
theorem hangs_call : call T F.sched_hangs [vBlock b] [] = some (vLs (List.replicate n []), []) := by
  rw [call_eq (fn := a_sched_hangs) rfl]
  have hlim : ((n : Int) ≤ (LIM : Int)) = True := by simp; unfold LIM; omega
  have hln : (b.ops.length : Int) = n := by rw [hn]
  have a1 : 1 + n = n + 1 := Nat.add_comm 1 n
  have a2 : n + 1 + 1 = n + 2 := rfl
  have a3 : n + 2 + 1 = n + 3 := rfl
  have h0 : HInv n 0 (Ob.cells 0 5 [cBlock b] :: (List.replicate n (Ob.cells 0 1 []) ++ [Ob.cells 0 1 (List.map (nestR 1 [C.f (Fz.sl [])] 0) (List.range n)), Ob.mp [], Ob.tok 1 [0]])) := by
    refine ⟨by simp, by simp, ⟨List.map (nestR 1 [C.f (Fz.sl [])] 0) (List.range n), ?_, by simp, fun i hi => by omega, fun i _ hi => ?_⟩, fun i _ hi => ?_, ⟨[], ?_⟩⟩
    · rw [List.getElem?_cons_succ, List.getElem?_append_right (by simp)]
      simp
    · simp [hi, nestR]
    · rw [Nat.add_comm, List.getElem?_cons_succ, List.getElem?_append_left (by rw [List.length_replicate]; exact hi), List.getElem?_replicate, if_pos hi]
    · rw [List.getElem?_cons_succ, List.getElem?_append_right (by simp)]
      simp
  have he := fun a0 a1 a2 a6 a7 a8 a9 a10 a14 a15 a16 a17 a18 a19 a20 a21 => hangs_l1 b hb hq n hn hn2 n 0 _ a0 a1 a2 a6 a7 a8 a9 a10 a14 a15 a16 a17 a18 a19 a20 a21 (by omega) (by omega) h0
  simp only [Int.natCast_zero] at he
  obtain ⟨σ', hI, h⟩ := he (vBlock b) (.one (.ptr 0 0 0 0)) (vL []) vU vU vU vU vU vU vU vU vU vU vU vU vU
  obtain ⟨es, hm1, hm2, hm3, hm4⟩ := hI.main
  have hf := row_cells es (fun i hi => hm3 i (by omega))
  have ht : es.take n = es := List.take_of_length_le (by omega)
  have hd : es.drop 0 = es := rfl
  have hrl : List.map rl (List.replicate n []) = List.replicate n [Fz.sl []] := by rw [List.map_replicate]; rfl
  rw [hm2] at hf
  have hlen2 := hI.len2
  have hps : (σ'.length ≤ 0) = False := eq_false (by omega)
  simp -implicitDefEqProofs only [go_sem] at h
  simp -implicitDefEqProofs only [go_sem, a_sched_hangs, hln, hlim, Int.natCast_nonneg, Int.toNat_natCast, List.length_append, List.length_replicate, List.length_cons, List.length_nil, a1, a2, a3, h, hm1, hf, ht, hd, hrl, hps]
end
end AC

namespace AC
open Go Go.A Go.A.Lex
def rightF (f : PFunc) (tree : List Int) (k : Int) : Bool := decide (0 ≤ k) && (decide (k < f.blocks.length) && decide (checkS f 2 tree = 0))
theorem sched_right_call (f : PFunc) (hf : okF f) (tree : List Int) (hT : TreeIs f tree) (k : Int) : call T F.sched_right [vFunc f, vI k] [] = some (vB (rightF f tree k), []) := by
  rw [call_eq (fn := a_sched_right) rfl]
  have hc := Check_call f hf 2 tree hT
  simp -implicitDefEqProofs only [go_sem] at hc
  by_cases c1 : 0 ≤ k
  · by_cases c2 : k < f.blocks.length
    · by_cases c3 : checkS f 2 tree = 0
      · simp -implicitDefEqProofs only [go_sem, a_sched_right, hc, c1, c2, c3, rightF]
      · simp -implicitDefEqProofs only [go_sem, a_sched_right, hc, c1, c2, c3, rightF]
    · simp -implicitDefEqProofs only [go_sem, a_sched_right, hc, c1, c2, rightF]
  · simp -implicitDefEqProofs only [go_sem, a_sched_right, hc, c1, rightF]
abbrev BMap := List (Int × Bool)
def vBo (b : Bool) : V := .one (.f (.lit (.bool b)))
theorem ltm_b (n : Nat) (D : BMap) : C.ltm n (encM vBo D) = true := ltm_enc vBo n (fun a => by simp [vBo, V.lt, C.lt]) D
theorem mget_b (k : Int) (D : BMap) : mget k (encM vBo D) = (getM k D).map vBo := mget_enc vBo k D
theorem mput_b (k : Int) (o : Bool) (D : BMap) : mput k (V.one (.f (.lit (.bool o)))) (encM vBo D) = encM vBo (putM k o D) := mput_enc vBo k o D
theorem stands_nil (σ : Store) (m : Nat) (es : List (Int × V)) (hm : σ[m]? = some (.mp es)) (hσ : Ok σ) : call T F.sched_stands [.one (.map m), vL []] σ = some (vB true, σ) := by
  rw [call_eq (fn := a_sched_stands) rfl]
  have h := fun σ => ContainsFunc_int_call [] (fun _ => false) F.sched_stands_1 [] [.ptr σ.length 0 0 0] (σ ++ [Ob.cells 0 1 [[.map m]]]) (by simp) (fun x hx => by simp at hx)
  have ok := fun k => Ok.up hσ k
  have ok0 := Ok.at hσ
  simp -implicitDefEqProofs only [go_sem] at h
  simp -implicitDefEqProofs only [go_sem, a_sched_stands, h, ok, ok0]
def putAllB : BMap → List Int → BMap
  | D, [] => D
  | D, x :: r => putAllB (putM x true D) r
section
variable (b : PBlock) (hb : okB b) (hq : ∀ o ∈ b.ops, quiet o) (n : Nat) (hn : n = b.ops.length) (hn2 : n ≤ 1000) (order : List Int) (ho : order.length = n) (hr : ∀ x ∈ order, 0 ≤ x ∧ x < (n : Int)) (hd : order.Nodup)
include hb hq hn hn2 ho hr hd
theorem legal_l0 : ∀ (d k : Nat) (D : BMap) (a0 a1 a3 a6 a7 a11 a12 : V), n - k = d → k ≤ n → (∀ j (hj : j < order.length), k ≤ j → getM order[j] D = none) →
    exec T sched_legal_l0 ⟨[a0, a1, .one (.ptr 0 0 0 0), a3, .one (.map 1), vLs (List.replicate n []), a6, a7, vIs order, vI n, vI k, a11, a12], [.cells 0 5 [cBlock b], .mp (encM vBo D)], 0, 0⟩ =
      some (.exit 0, ⟨[vU, vU, vU, vU, vU, vU, vU, vU, vU, vU, vU, vU, vU], [.cells 0 5 [cBlock b], .mp (encM vBo (putAllB D (order.drop k)))], 0, 0⟩) := by
  intro d
  induction d with
  | zero =>
    intro k D a0 a1 a3 a6 a7 a11 a12 h1 h2 h3
    have hk : k = n := by omega
    subst hk
    have e : order.drop k = [] := by simp [ho]
    rw [sched_legal_l0_eq, sched_legal_b0, e]
    simp -implicitDefEqProofs only [go_sem, Int.lt_irrefl, putAllB, ltm_b]
  | succ d ih =>
    intro k D a0 a1 a3 a6 a7 a11 a12 h1 h2 h3
    have hk : k < order.length := by omega
    have hdk : order.drop k = order[k] :: order.drop (k + 1) := List.drop_eq_getElem_cons hk
    obtain ⟨r1, r2⟩ := hr _ (List.getElem_mem hk)
    have hlk : ((k : Int) < (n : Int)) = True := by simp; omega
    have hlo : (order[k] < (b.ops.length : Int)) := by omega
    have c1 : ¬ order[k] < 0 := by omega
    have c2 : ¬ (b.ops.length : Int) ≤ order[k] := by omega
    have hg := mget_b order[k] D
    rw [h3 k hk (Nat.le_refl _)] at hg
    have hp := mput_b order[k] true D
    have hs := stands_nil [.cells 0 5 [cBlock b], .mp (encM vBo D)] 1 (encM vBo D) rfl (by unfold Ok; simp -implicitDefEqProofs only [go_sem, ltm_b])
    have hrow : (List.replicate n ([] : List Int))[order[k].toNat]? = some [] := by rw [List.getElem?_replicate, if_pos (by omega)]
    have := ih (k + 1) (putM order[k] true D) vU vU vU vU vU vU vU (by omega) (by omega) (fun j hj hkj => by
      rw [get_putM, if_neg (fun e => ?_)]
      · exact h3 j hj (by omega)
      · have := (List.getElem_inj (h₀ := hk) (h₁ := hj) hd).1 e
        omega)
    rw [sched_legal_l0_eq, sched_legal_b0, hdk, putAllB]
    simp -implicitDefEqProofs only [go_sem] at hg hs this
    simp -implicitDefEqProofs only [go_sem, hlk, c1, c2, hg, hp, hs, getr hk, ri, rl, List.getElem?_map, hrow, r1, ltm_b, wrap_succ hk (show order.length ≤ 4294967296 by omega), this]
end
end AC

namespace AC
open Go Go.A Go.A.Lex
section
variable (b : PBlock) (hb : okB b) (hq : ∀ o ∈ b.ops, quiet o) (n : Nat) (hn : n = b.ops.length) (hn2 : n ≤ 1000)
include hb hq hn hn2
theorem legal_call (order : List Int) (ho : order.length = n) (hr : ∀ x ∈ order, 0 ≤ x ∧ x < (n : Int)) (hd : order.Nodup) : call T F.sched_legal [vBlock b, vIs order] [] = some (vB true, []) := by
  rw [call_eq (fn := a_sched_legal) rfl]
  have hh := hangs_call b hb hq n hn hn2
  have h := fun a0 a1 a3 a6 a7 a11 a12 => legal_l0 b hb hq n hn hn2 order ho hr hd n 0 [] a0 a1 a3 a6 a7 a11 a12 (by omega) (by omega) (fun _ _ _ => rfl)
  have he : encM vBo [] = [] := rfl
  have hol : (order.length : Int) = n := by rw [ho]
  have hbl : (b.ops.length : Int) = n := by rw [hn]
  simp only [Int.natCast_zero, he] at h
  simp -implicitDefEqProofs only [go_sem] at h hh
  simp -implicitDefEqProofs only [go_sem, a_sched_legal, hol, hbl, hh, h]
variable (params : List Int) (ret : Int) (tree : List Int) (hf : okF ⟨params, ret, [b]⟩) (hT : TreeIs ⟨params, ret, [b]⟩ tree) (h0 : lookS ⟨params, ret, [b]⟩ 2 tree = 0)
include hf hT h0
theorem schedRight_one : call T F.sched_right [vFunc ⟨params, ret, [b]⟩, vI 0] [] = some (vB true, []) := by
  have h := sched_right_call _ hf tree hT 0
  have hc : checkS ⟨params, ret, [b]⟩ 2 tree = 0 := by rw [checkS, if_neg (by omega), h0]
  have : rightF ⟨params, ret, [b]⟩ tree 0 = true := by simp [rightF, hc]
  rw [h, this]
theorem Legal_call (order : List Int) (ho : order.length = n) (hr : ∀ x ∈ order, 0 ≤ x ∧ x < (n : Int)) (hd : order.Nodup) : call T F.sched_Legal [vFunc ⟨params, ret, [b]⟩, vI 0, vIs order] [] = some (vB true, []) := by
  rw [call_eq (fn := a_sched_Legal) rfl]
  have h1 := schedRight_one b hb hq n hn hn2 params ret tree hf hT h0
  have h2 := legal_call b hb hq n hn hn2 order ho hr hd
  simp -implicitDefEqProofs only [go_sem, List.map_cons, List.map_nil, rb, ri, ei, eI] at h1 h2
  simp -implicitDefEqProofs only [go_sem, a_sched_Legal, h1, h2, List.map_cons, List.map_nil, rb, ei, eI]
theorem Hangs_call (at' : Nat) (ha : at' < n) : call T F.sched_Hangs [vFunc ⟨params, ret, [b]⟩, vI 0, vI at'] [] = some (vL [], []) := by
  rw [call_eq (fn := a_sched_Hangs) rfl]
  have h1 := schedRight_one b hb hq n hn hn2 params ret tree hf hT h0
  have hh := hangs_call b hb hq n hn hn2
  have c1 : ¬ (at' : Int) < 0 := by omega
  have c2 : ¬ (b.ops.length : Int) ≤ at' := by omega
  have hrow : (List.replicate n ([] : List Int))[at']? = some [] := by rw [List.getElem?_replicate, if_pos (by omega)]
  simp -implicitDefEqProofs only [go_sem, List.map_cons, List.map_nil, rb, ri, ei, eI] at h1 hh
  simp -implicitDefEqProofs only [go_sem, a_sched_Hangs, h1, hh, List.map_cons, List.map_nil, rb, ei, eI, c1, c2, List.getElem?_map, hrow, rl, Int.natCast_nonneg, Int.toNat_natCast]
theorem depth_l1 : ∀ (d k : Nat) (a0 a1 a2 a3 a5 a6 a7 a8 a12 a13 a14 a15 a16 : V), n - k = d → k ≤ n →
    exec T sched_Depth_l1 ⟨[a0, a1, a2, a3, .one (.ap 1 0 ((List.replicate k (0 : Int)).map ri)), a5, a6, a7, a8, vLs (List.replicate n []), vI n, vI k, a12, a13, a14, a15, a16], [.cells 0 3 [cFunc ⟨params, ret, [b]⟩], .tok 1 [k]], 0, 0⟩ =
      some (.exit 0, ⟨[vU, vU, vU, vU, .one (.ap 1 0 ((List.replicate n (0 : Int)).map ri)), vU, vU, vU, vU, vU, vU, vU, vU, vU, vU, vU, vU], [.cells 0 3 [cFunc ⟨params, ret, [b]⟩], .tok 1 [n]], 0, 0⟩) := by
  intro d
  induction d with
  | zero =>
    intro k a0 a1 a2 a3 a5 a6 a7 a8 a12 a13 a14 a15 a16 h1 h2
    have hk : k = n := by omega
    subst hk
    rw [sched_Depth_l1_eq, sched_Depth_b1]
    simp -implicitDefEqProofs only [go_sem, Int.lt_irrefl]
  | succ d ih =>
    intro k a0 a1 a2 a3 a5 a6 a7 a8 a12 a13 a14 a15 a16 h1 h2
    have hlk : ((k : Int) < (n : Int)) = True := by simp; omega
    have hrow : (List.replicate n ([] : List Int))[k]? = some [] := by rw [List.getElem?_replicate, if_pos (by omega)]
    have hw : Go.IntKind.i64.wrap ((k : Int) + 1) = ((k + 1 : Nat) : Int) := by rw [wrap_i64] <;> omega
    have hlim : k + 1 ≤ LIM := by unfold LIM; omega
    have e : (List.replicate k (0 : Int)).map ri ++ [[.lit (.int .i64 0)]] = (List.replicate (k + 1) (0 : Int)).map ri := by rw [List.replicate_succ']; simp [ri, ei]
    have := ih (k + 1) vU vU vU vU vU vU vU vU vU vU vU vU vU (by omega) (by omega)
    rw [sched_Depth_l1_eq, sched_Depth_b1]
    rw [← e] at this
    simp -implicitDefEqProofs only [go_sem] at this
    simp -implicitDefEqProofs only [go_sem, hlk, hrow, sched_Depth_l0_eq, sched_Depth_b0, List.getElem?_map, rl, Int.natCast_nonneg, Int.toNat_natCast, hw, hlim, List.length_map, List.length_replicate, this]
end
end AC

set_option linter.unusedSectionVars false
namespace AC
open Go Go.A Go.A.Lex
def upI (n : Nat) : List Int := (List.range n).map fun i : Nat => (i : Int)
theorem upI_succ (n : Nat) : upI (n + 1) = upI n ++ [(n : Int)] := by simp [upI, List.range_succ]
theorem upI_length (n : Nat) : (upI n).length = n := by simp [upI]
def putUp : Nat → BMap
  | 0 => []
  | j + 1 => putM (j : Int) true (putUp j)
theorem get_putUp (v : Int) : ∀ j : Nat, getM v (putUp j) = if 0 ≤ v ∧ v < j then some true else none
  | 0 => by rw [if_neg (by omega)]; rfl
  | j + 1 => by
    rw [putUp, get_putM, get_putUp v j]
    by_cases c : (j : Int) = v
    · rw [if_pos c, if_pos (by omega)]
    · rw [if_neg c]
      by_cases c2 : 0 ≤ v ∧ v < (j : Int)
      · rw [if_pos c2, if_pos (by omega)]
      · rw [if_neg c2, if_neg (by omega)]
abbrev fSt (f : PFunc) (b : PBlock) (j : Nat) : Store := [.cells 0 3 [cFunc f], .cells 0 5 [cBlock b], .mp (encM vBo (putUp j)), .tok 1 [j]]
abbrev pass2 : V := .one (.f (.sl [[.lit (.bool true)], [.lit (.bool false)]]))
section
variable (f : PFunc) (b : PBlock) (hb : okB b) (hq : ∀ o ∈ b.ops, quiet o) (n : Nat) (hn : n = b.ops.length) (hn2 : n ≤ 1000)
include hb hq hn hn2
theorem flat_skip (p : Bool) (i : Int) (j : Nat) (hj : j ≤ n) (R : Option (Ex × St))
    (hR : ∀ (a0 a1 a2 a3 a9 a10 a11 a15 a19 a20 : V), exec T sched_Flat_l0 ⟨[a0, a1, a2, a3, .one (.ptr 1 0 0 0), vLs (List.replicate n []), .one (.map 2), .one (.ap 3 0 ((upI j).map ri)), vB p, a9, a10, a11, pass2, vI 2, vI i, a15, vL (b.ops.map ro), vI n, vI j, a19, a20], fSt f b j, 0, 0⟩ = R) :
    ∀ (d k : Nat) (a0 a1 a2 a3 a9 a10 a11 a15 a19 a20 : V), j - k = d → k ≤ j → exec T sched_Flat_l0 ⟨[a0, a1, a2, a3, .one (.ptr 1 0 0 0), vLs (List.replicate n []), .one (.map 2), .one (.ap 3 0 ((upI j).map ri)), vB p, a9, a10, a11, pass2, vI 2, vI i, a15, vL (b.ops.map ro), vI n, vI k, a19, a20], fSt f b j, 0, 0⟩ = R := by
  intro d
  induction d with
  | zero =>
    intro k a0 a1 a2 a3 a9 a10 a11 a15 a19 a20 h1 h2
    have : k = j := by omega
    subst this
    exact hR a0 a1 a2 a3 a9 a10 a11 a15 a19 a20
  | succ d ih =>
    intro k a0 a1 a2 a3 a9 a10 a11 a15 a19 a20 h1 h2
    have hk : k < b.ops.length := by omega
    have hlk : ((k : Int) < (n : Int)) = True := by simp; omega
    have hg := mget_b k (putUp j)
    rw [get_putUp, if_pos (by omega)] at hg
    have := ih (k + 1) vU vU vU vU vU vU vU vU vU vU (by omega) (by omega)
    rw [sched_Flat_l0_eq, sched_Flat_b0]
    simp -implicitDefEqProofs only [go_sem, vBo, Option.map_some] at hg this
    simp -implicitDefEqProofs only [go_sem, fSt, hlk, getr hk, ro, hg, ltm_b, wrap_succ hk hb.ops, this]
theorem flat_end (p : Bool) (i : Int) (a0 a1 a2 a3 a9 a10 a11 a15 a19 a20 : V) : exec T sched_Flat_l0 ⟨[a0, a1, a2, a3, .one (.ptr 1 0 0 0), vLs (List.replicate n []), .one (.map 2), .one (.ap 3 0 ((upI n).map ri)), vB p, a9, a10, a11, pass2, vI 2, vI i, a15, vL (b.ops.map ro), vI n, vI n, a19, a20], fSt f b n, 0, 0⟩ =
    some (.exit 2, ⟨[vU, vU, vU, vU, .one (.ptr 1 0 0 0), vLs (List.replicate n []), .one (.map 2), .one (.ap 3 0 ((upI n).map ri)), vU, vU, vU, vU, pass2, vI 2, vI i, vU, vU, vU, vU, vU, vU], fSt f b n, 0, 0⟩) := by
  rw [sched_Flat_l0_eq, sched_Flat_b0]
  simp -implicitDefEqProofs only [go_sem, fSt, Int.lt_irrefl, ltm_b]
theorem flat_take (i : Int) (j : Nat) (hj : j < n) (a0 a1 a2 a3 a9 a10 a11 a15 a19 a20 : V) : exec T sched_Flat_l0 ⟨[a0, a1, a2, a3, .one (.ptr 1 0 0 0), vLs (List.replicate n []), .one (.map 2), .one (.ap 3 0 ((upI j).map ri)), vB true, a9, a10, a11, pass2, vI 2, vI i, a15, vL (b.ops.map ro), vI n, vI j, a19, a20], fSt f b j, 0, 0⟩ =
    some (.goto 0, ⟨[vU, vU, vU, vU, .one (.ptr 1 0 0 0), vLs (List.replicate n []), .one (.map 2), .one (.ap 3 0 ((upI (j + 1)).map ri)), vU, vU, vU, vU, vU, vU, vU, vU, vU, vU, vU, vU, vU], fSt f b (j + 1), 0, 0⟩) := by
  have hk : j < b.ops.length := by omega
  obtain ⟨q1, q2, q3⟩ := hq _ (List.getElem_mem hk)
  have hlk : ((j : Int) < (n : Int)) = True := by simp; omega
  have hg := mget_b j (putUp j)
  rw [get_putUp, if_neg (by omega)] at hg
  have hp := kind_Pure_call b.ops[j].kind
  rw [q2] at hp
  have hs := stands_nil (fSt f b j ++ [.cells 0 6 [cOp b.ops[j]]]) 2 (encM vBo (putUp j)) rfl (by unfold Ok; simp -implicitDefEqProofs only [go_sem, ltm_b])
  have hrow : (List.replicate n ([] : List Int))[j]? = some [] := by rw [List.getElem?_replicate, if_pos (by omega)]
  have hlim : j + 1 ≤ LIM := by unfold LIM; omega
  have hm := mput_b j true (putUp j)
  have he : (upI j).map ri ++ [[.lit (.int .i64 (j : Int))]] = (upI (j + 1)).map ri := by rw [upI_succ]; simp [ri, ei]
  rw [sched_Flat_l0_eq, sched_Flat_b0, ← he]
  have eP : putUp (j + 1) = putM (j : Int) true (putUp j) := rfl
  simp -implicitDefEqProofs only [go_sem, fSt, q1] at hg hp hs
  simp -implicitDefEqProofs only [go_sem, fSt, show (true == true) = true from rfl, hlk, getr hk, ro, q1, hg, hp, hs, hm, eP, hrow, List.getElem?_map, rl, hlim, Int.natCast_nonneg, Int.toNat_natCast, List.length_map, upI_length, ltm_b]
end
end AC

set_option linter.unusedSectionVars false
namespace AC
open Go Go.A Go.A.Lex
def flatA : Go.A.Code := sched_Flat_s2.p1
def flatB : Go.A.Code := sched_Flat_s2.p2.p1
def flatC : Go.A.Code := sched_Flat_s2.p2.p2.p1
def flatD : Go.A.Code := sched_Flat_s2.p2.p2.p2.p1
def flatE : Go.A.Code := sched_Flat_s2.p2.p2.p2.p2.p1
def flatRest : Go.A.Code := sched_Flat_s2.p2.p2.p2.p2.p2.p2
theorem flat_s2_eq : sched_Flat_s2 = .seq flatA (.seq flatB (.seq flatC (.seq flatD (.seq flatE (.seq (.label 0) flatRest))))) := rfl
theorem flat_r2 : sched_Flat_r2 = .seq .skip flatRest := rfl
section
variable (f : PFunc) (b : PBlock) (hb : okB b) (hq : ∀ o ∈ b.ops, quiet o) (n : Nat) (hn : n = b.ops.length) (hn2 : n ≤ 1000)
include hb hq hn hn2
theorem flat_l1_go (j : Nat) (hj : j < n) (a0 a1 a2 a3 a8 a9 a10 a11 a15 a16 a17 a18 a19 a20 : V) : exec T sched_Flat_l1 ⟨[a0, a1, a2, a3, .one (.ptr 1 0 0 0), vLs (List.replicate n []), .one (.map 2), .one (.ap 3 0 ((upI j).map ri)), a8, a9, a10, a11, pass2, vI 2, vI 0, a15, a16, a17, a18, a19, a20], fSt f b j, 0, 0⟩ =
    some (.goto 0, ⟨[vU, vU, vU, vU, .one (.ptr 1 0 0 0), vLs (List.replicate n []), .one (.map 2), .one (.ap 3 0 ((upI (j + 1)).map ri)), vU, vU, vU, vU, vU, vU, vU, vU, vU, vU, vU, vU, vU], fSt f b (j + 1), 0, 0⟩) := by
  have h := fun a0 a1 a2 a3 a9 a10 a11 a15 a19 a20 => flat_skip f b hb hq n hn hn2 true 0 j (by omega) _ (fun a0 a1 a2 a3 a9 a10 a11 a15 a19 a20 => flat_take f b hb hq n hn hn2 0 j hj a0 a1 a2 a3 a9 a10 a11 a15 a19 a20) j 0 a0 a1 a2 a3 a9 a10 a11 a15 a19 a20 (by omega) (by omega)
  have hbl : (b.ops.length : Int) = n := by rw [hn]
  simp only [Int.natCast_zero] at h
  simp -implicitDefEqProofs only [go_sem, fSt] at h
  rw [sched_Flat_l1_eq, sched_Flat_b1]
  simp -implicitDefEqProofs only [go_sem, fSt, hbl, h]
theorem flat_l1_end (a0 a1 a2 a3 a8 a9 a10 a11 a15 a16 a17 a18 a19 a20 : V) : exec T sched_Flat_l1 ⟨[a0, a1, a2, a3, .one (.ptr 1 0 0 0), vLs (List.replicate n []), .one (.map 2), .one (.ap 3 0 ((upI n).map ri)), a8, a9, a10, a11, pass2, vI 2, vI 0, a15, a16, a17, a18, a19, a20], fSt f b n, 0, 0⟩ =
    some (.exit 0, ⟨[vU, vU, vU, vU, vU, vU, vU, .one (.ap 3 0 ((upI n).map ri)), vU, vU, vU, vU, vU, vU, vU, vU, vU, vU, vU, vU, vU], fSt f b n, 0, 0⟩) := by
  have h := fun (p : Bool) (i : Int) a0 a1 a2 a3 a9 a10 a11 a15 a19 a20 => flat_skip f b hb hq n hn hn2 p i n (Nat.le_refl n) _ (fun a0 a1 a2 a3 a9 a10 a11 a15 a19 a20 => flat_end f b hb hq n hn hn2 p i a0 a1 a2 a3 a9 a10 a11 a15 a19 a20) n 0 a0 a1 a2 a3 a9 a10 a11 a15 a19 a20 (by omega) (by omega)
  have hbl : (b.ops.length : Int) = n := by rw [hn]
  have w1 : Go.IntKind.i64.wrap 1 = 1 := by decide
  have w2 : Go.IntKind.i64.wrap 2 = 2 := by decide
  simp only [Int.natCast_zero] at h
  simp -implicitDefEqProofs only [go_sem, fSt] at h
  rw [sched_Flat_l1_eq, sched_Flat_b1]
  simp -implicitDefEqProofs only [go_sem, fSt, hbl, h, ltm_b, Int.reduceAdd, w1, w2]
  rw [sched_Flat_l1_eq, sched_Flat_b1]
  simp -implicitDefEqProofs only [go_sem, fSt, hbl, h, ltm_b, Int.reduceAdd, w1, w2]
  rw [sched_Flat_l1_eq, sched_Flat_b1]
  simp -implicitDefEqProofs only [go_sem, fSt, hbl, h, ltm_b, Int.reduceAdd, w1, w2]
theorem flat_run : ∀ (d j : Nat) (a0 a1 a2 a3 a8 a9 a10 a11 a12 a13 a14 a15 a16 a17 a18 a19 a20 : V), n - j = d → j ≤ n →
    exec T (.sc sched_Flat_s2 sched_Flat_r2) ⟨[a0, a1, a2, a3, .one (.ptr 1 0 0 0), vLs (List.replicate n []), .one (.map 2), .one (.ap 3 0 ((upI j).map ri)), a8, a9, a10, a11, a12, a13, a14, a15, a16, a17, a18, a19, a20], fSt f b j, 0, 0⟩ =
      some (.ret, ⟨[vU, vU, vU, .one (.ap 3 0 ((upI n).map ri)), vU, vU, vU, vU, vU, vU, vU, vU, vU, vU, vU, vU, vU, vU, vU, vU, vU], fSt f b n, 0, 0⟩) := by
  intro d
  induction d with
  | zero =>
    intro j a0 a1 a2 a3 a8 a9 a10 a11 a12 a13 a14 a15 a16 a17 a18 a19 a20 h1 h2
    have : j = n := by omega
    subst this
    have h := fun a0 a1 a2 a3 a8 a9 a10 a11 a15 a16 a17 a18 a19 a20 => flat_l1_end f b hb hq j hn hn2 a0 a1 a2 a3 a8 a9 a10 a11 a15 a16 a17 a18 a19 a20
    simp -implicitDefEqProofs only [go_sem, fSt] at h
    have e : exec T flatRest ⟨[a0, a1, a2, a3, .one (.ptr 1 0 0 0), vLs (List.replicate j []), .one (.map 2), .one (.ap 3 0 ((upI j).map ri)), a8, a9, a10, a11, a12, a13, a14, a15, a16, a17, a18, a19, a20], fSt f b j, 0, 0⟩ =
        some (.ret, ⟨[vU, vU, vU, .one (.ap 3 0 ((upI j).map ri)), vU, vU, vU, vU, vU, vU, vU, vU, vU, vU, vU, vU, vU, vU, vU, vU, vU], fSt f b j, 0, 0⟩) := by
      simp -implicitDefEqProofs only [go_sem, fSt, flatRest, sched_Flat_s2, Code.p2, show ((2 : Nat) : Int) = 2 from rfl, h]
    rw [exec_sc, flat_r2, exec_seq, exec_skip]
    simp only [Option.bind_some, seqK]
    rw [e]
    simp only [Option.bind_some, scK]
  | succ d ih =>
    intro j a0 a1 a2 a3 a8 a9 a10 a11 a12 a13 a14 a15 a16 a17 a18 a19 a20 h1 h2
    have h := fun a0 a1 a2 a3 a8 a9 a10 a11 a15 a16 a17 a18 a19 a20 => flat_l1_go f b hb hq n hn hn2 j (by omega) a0 a1 a2 a3 a8 a9 a10 a11 a15 a16 a17 a18 a19 a20
    have e : exec T flatRest ⟨[a0, a1, a2, a3, .one (.ptr 1 0 0 0), vLs (List.replicate n []), .one (.map 2), .one (.ap 3 0 ((upI j).map ri)), a8, a9, a10, a11, a12, a13, a14, a15, a16, a17, a18, a19, a20], fSt f b j, 0, 0⟩ =
        some (.goto 0, ⟨[vU, vU, vU, vU, .one (.ptr 1 0 0 0), vLs (List.replicate n []), .one (.map 2), .one (.ap 3 0 ((upI (j + 1)).map ri)), vU, vU, vU, vU, vU, vU, vU, vU, vU, vU, vU, vU, vU], fSt f b (j + 1), 0, 0⟩) := by
      simp -implicitDefEqProofs only [go_sem, fSt] at h
      simp -implicitDefEqProofs only [go_sem, fSt, flatRest, sched_Flat_s2, Code.p2, show ((2 : Nat) : Int) = 2 from rfl, h]
    rw [exec_sc, flat_r2, exec_seq, exec_skip]
    simp only [Option.bind_some, seqK]
    rw [e]
    simp only [Option.bind_some, scK, sched_Flat_r2_eq]
    exact ih (j + 1) _ _ _ _ _ _ _ _ _ _ _ _ _ _ _ _ _ (by omega) (by omega)
end
end AC

set_option linter.unusedSectionVars false
namespace AC
open Go Go.A Go.A.Lex
theorem CloneB_call (b : PBlock) (σ : Store) : call T F.slices_Clone_Block [vL [rb b]] σ = some (.one (.own σ.length 0 0 1), σ ++ [.cells 0 5 [cBlock b]]) := by
  rw [call_ext (g := extCloneB 5) rfl]
  simp [extCloneB, okSz, rb, LIM]
section
variable (b : PBlock) (hb : okB b) (hq : ∀ o ∈ b.ops, quiet o) (n : Nat) (hn : n = b.ops.length) (hn2 : n ≤ 1000)
variable (params : List Int) (ret : Int) (tree : List Int) (hf : okF ⟨params, ret, [b]⟩) (hT : TreeIs ⟨params, ret, [b]⟩ tree) (h0 : lookS ⟨params, ret, [b]⟩ 2 tree = 0)
include hb hq hn hn2 hf hT h0
theorem Depth_call : call T F.sched_Depth [vFunc ⟨params, ret, [b]⟩, vI 0] [] = some (vIs (List.replicate n 0), []) := by
  rw [call_eq (fn := a_sched_Depth) rfl]
  have h1 := schedRight_one b hb hq n hn hn2 params ret tree hf hT h0
  have hh := hangs_call b hb hq n hn hn2
  have h := fun a0 a1 a2 a3 a5 a6 a7 a8 a12 a13 a14 a15 a16 => depth_l1 b hb hq n hn hn2 params ret tree hf hT h0 n 0 a0 a1 a2 a3 a5 a6 a7 a8 a12 a13 a14 a15 a16 (by omega) (by omega)
  simp only [Int.natCast_zero, List.replicate_zero, List.map_nil] at h
  simp -implicitDefEqProofs only [go_sem, List.map_cons, List.map_nil, rb, ei, eI] at h1 hh h
  simp -implicitDefEqProofs only [go_sem, a_sched_Depth, h1, hh, h, List.map_cons, List.map_nil, rb, ei, eI, List.length_map, List.length_replicate]
theorem Flat_call : call T F.sched_Flat [vFunc ⟨params, ret, [b]⟩, vI 0] [] = some (vIs (upI n), []) := by
  rw [call_eq (fn := a_sched_Flat) rfl]
  have h1 := schedRight_one b hb hq n hn hn2 params ret tree hf hT h0
  have hh := hangs_call b hb hq n hn hn2
  have e1 : exec T (.scope sched_Flat_s2) ⟨[vFunc ⟨params, ret, [b]⟩, vI 0, .one (.ptr 0 0 0 0), vL [], vU, vU, vU, vU, vU, vU, vU, vU, vU, vU, vU, vU, vU, vU, vU, vU, vU], [.cells 0 3 [cFunc ⟨params, ret, [b]⟩]], 0, 0⟩ =
      some (.ret, ⟨[vU, vU, vU, .one (.ap 3 0 ((upI n).map ri)), vU, vU, vU, vU, vU, vU, vU, vU, vU, vU, vU, vU, vU, vU, vU, vU, vU], fSt ⟨params, ret, [b]⟩ b n, 0, 0⟩) := by
    have h := fun a0 a1 a2 a3 a8 a9 a10 a11 a12 a13 a14 a15 a16 a17 a18 a19 a20 => flat_run ⟨params, ret, [b]⟩ b hb hq n hn hn2 n 0 a0 a1 a2 a3 a8 a9 a10 a11 a12 a13 a14 a15 a16 a17 a18 a19 a20 (by omega) (by omega)
    rw [← h (vFunc ⟨params, ret, [b]⟩) (vI 0) (.one (.ptr 0 0 0 0)) (vL []) vU vU vU (vB false) vU vU vU vU vU vU vU vU vU]
    rw [exec_scope, exec_sc, exec_sc]
    congr 1
    rw [flat_r2, exec_seq, exec_skip]
    simp only [Option.bind_some, seqK]
    rw [flat_s2_eq]
    have u0 : upI 0 = [] := rfl
    have p0 : encM vBo (putUp 0) = [] := rfl
    simp -implicitDefEqProofs only [go_sem, List.map_cons, List.map_nil, rb, ei, eI] at h1 hh
    simp -implicitDefEqProofs only [go_sem, fSt, u0, p0, flatA, flatB, flatC, flatD, flatE, sched_Flat_s2, Code.p1, Code.p2, h1, hh, List.map_cons, List.map_nil, rb, ei, eI]
    try rfl
  simp -implicitDefEqProofs only [go_sem, fSt, List.map_cons, List.map_nil, rb, ei, eI] at e1
  simp -implicitDefEqProofs only [go_sem, a_sched_Flat, e1, List.map_cons, List.map_nil, rb, ei, eI]
end
end AC

set_option linter.unusedSectionVars false
namespace AC
open Go Go.A Go.A.Lex
def pickO (ops : List POp) (x : Int) : POp := ops.getD x.toNat ⟨0, 0, 0, 0, [], 0⟩
abbrev zF3 : Ob := .cells 0 3 [[.f (.sl []), .f (.lit (.int .i64 0)), .f (.sl [])]]
section
variable (b : PBlock) (hb : okB b) (hq : ∀ o ∈ b.ops, quiet o) (n : Nat) (hn : n = b.ops.length) (hn2 : n ≤ 1000)
variable (params : List Int) (ret : Int) (tree : List Int) (hf : okF ⟨params, ret, [b]⟩) (hT : TreeIs ⟨params, ret, [b]⟩ tree) (h0 : lookS ⟨params, ret, [b]⟩ 2 tree = 0)
variable (order : List Int) (ho : order.length = n) (hr : ∀ x ∈ order, 0 ≤ x ∧ x < (n : Int)) (hd : order.Nodup)
include hb hq hn hn2 hf hT h0 ho hr hd
theorem put_l0 : ∀ (d k : Nat) (acc : List POp) (a0 a2 a5 a7 a8 a9 a13 : V), n - k = d → k ≤ n → acc.length = k →
    exec T sched_Put_l0 ⟨[a0, vI 0, a2, .one (.ptr 0 0 0 0), .one (.ptr 1 0 0 0), a5, .one (.ap 2 0 (acc.map ro)), a7, a8, a9, vIs order, vI n, vI k, a13], [.cells 0 3 [cFunc ⟨params, ret, [b]⟩], zF3, .tok 6 [acc.length]], 0, 0⟩ =
      some (.exit 0, ⟨[vU, vI 0, vU, .one (.ptr 0 0 0 0), .one (.ptr 1 0 0 0), vU, .one (.ap 2 0 ((acc ++ (order.drop k).map (pickO b.ops)).map ro)), vU, vU, vU, vU, vU, vU, vU], [.cells 0 3 [cFunc ⟨params, ret, [b]⟩], zF3, .tok 6 [(acc ++ (order.drop k).map (pickO b.ops)).length]], 0, 0⟩) := by
  intro d
  induction d with
  | zero =>
    intro k acc a0 a2 a5 a7 a8 a9 a13 h1 h2 h3
    have hk : k = n := by omega
    subst hk
    have e : order.drop k = [] := by simp [ho]
    rw [sched_Put_l0_eq, sched_Put_b0, e]
    simp -implicitDefEqProofs only [go_sem, Int.lt_irrefl, List.map_nil, List.append_nil]
  | succ d ih =>
    intro k acc a0 a2 a5 a7 a8 a9 a13 h1 h2 h3
    have hk : k < order.length := by omega
    have hdk : order.drop k = order[k] :: order.drop (k + 1) := List.drop_eq_getElem_cons hk
    obtain ⟨r1, r2⟩ := hr _ (List.getElem_mem hk)
    have hlk : ((k : Int) < (n : Int)) = True := by simp; omega
    have hlo : order[k].toNat < b.ops.length := by omega
    have hpk : (b.ops.map ro)[order[k].toNat]? = some (ro (pickO b.ops order[k])) := by simp [pickO, hlo]
    have hlim : acc.length + 1 ≤ LIM := by unfold LIM; omega
    have e : acc ++ pickO b.ops order[k] :: (order.drop (k + 1)).map (pickO b.ops) = (acc ++ [pickO b.ops order[k]]) ++ (order.drop (k + 1)).map (pickO b.ops) := by simp
    have e2 : acc.map ro ++ [ro (pickO b.ops order[k])] = (acc ++ [pickO b.ops order[k]]).map ro := by simp
    have := ih (k + 1) (acc ++ [pickO b.ops order[k]]) vU vU vU vU vU vU vU (by omega) (by omega) (by simp; omega)
    rw [sched_Put_l0_eq, sched_Put_b0, hdk, List.map_cons, e]
    rw [← e2] at this
    simp -implicitDefEqProofs only [go_sem, List.map_cons, List.map_nil, rb, ro, ei, eu, eI] at this hpk
    simp -implicitDefEqProofs only [go_sem, hlk, getr hk, ri, List.map_cons, List.map_nil, rb, ro, ei, eu, eI, hpk, r1, hlim, List.length_map, wrap_succ hk (show order.length ≤ 4294967296 by omega), this]
theorem Put_call : call T F.sched_Put [vFunc ⟨params, ret, [b]⟩, vI 0, vIs order] [] = some (.tup [vFunc ⟨params, ret, [⟨b.phis, order.map (pickO b.ops), b.kind, b.arg, b.to⟩]⟩, vI 0], []) := by
  rw [call_eq (fn := a_sched_Put) rfl]
  have h1 := Legal_call b hb hq n hn hn2 params ret tree hf hT h0 order ho hr hd
  have h := fun a0 a2 a5 a7 a8 a9 a13 => put_l0 b hb hq n hn hn2 params ret tree hf hT h0 order ho hr hd n 0 [] a0 a2 a5 a7 a8 a9 a13 (by omega) (by omega) rfl
  have hc := CloneB_call b
  have hol : (order.length : Int) = n := by rw [ho]
  simp only [Int.natCast_zero, List.map_nil, List.nil_append, List.drop_zero, List.length_nil] at h
  simp -implicitDefEqProofs only [go_sem, List.map_cons, List.map_nil, rb, ei, eI] at h1 h hc
  simp -implicitDefEqProofs only [go_sem, a_sched_Put, show ((1 : Nat) : Int) = 1 from rfl, hol, h1, h, hc, List.map_cons, List.map_nil, rb, ei, eI, List.length_map]
end
end AC
