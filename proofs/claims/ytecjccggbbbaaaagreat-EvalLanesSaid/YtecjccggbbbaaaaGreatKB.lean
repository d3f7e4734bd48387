import Derived.Test.YtecjccggbbbaaaaGreatKA
set_option linter.unusedVariables false
set_option linter.unusedSimpArgs false
namespace AC
open Go Go.A Go.A.Lex
theorem cutW_range {v w : Int} (h : 0 ≤ v) : 0 ≤ cutW v w ∧ cutW v w < 18446744073709551616 := by
  unfold cutW
  split
  · rename_i hm
    rcases mayW_cases hm with rfl | rfl | rfl | rfl | rfl <;> simp <;> omega
  · omega
theorem cutW_lt {v w : Int} (hm : mayW w = true) : 0 ≤ cutW v w ∧ cutW v w < 2 ^ w.toNat := by
  unfold cutW
  rw [if_pos hm]
  rcases mayW_cases hm with rfl | rfl | rfl | rfl | rfl <;> simp <;> omega
/-- A number as a signed one. -/
def sgn (a w : Int) : Int := if a < 2 ^ (w.toNat - 1) then a else a - 2 ^ w.toNat
def b2i (b : Bool) : Int := if b then 1 else 0
def andU (a b : Int) : Int := IntKind.u64.wrap ((BitVec.ofInt 64 a &&& BitVec.ofInt 64 b).toNat : Int)
def orU (a b : Int) : Int := IntKind.u64.wrap ((BitVec.ofInt 64 a ||| BitVec.ofInt 64 b).toNat : Int)
def xorU (a b : Int) : Int := IntKind.u64.wrap ((BitVec.ofInt 64 a ^^^ BitVec.ofInt 64 b).toNat : Int)
def rawS (k w a b : Int) : Int :=
  if k = 1 then IntKind.u64.wrap (a + b) else if k = 2 then IntKind.u64.wrap (a - b) else if k = 3 then IntKind.u64.wrap (a * b) else if k = 4 then IntKind.u64.wrap (a.tdiv b)
  else if k = 5 then andU a b else if k = 6 then orU a b else if k = 7 then xorU a b
  else if k = 8 then (if b < w then IntKind.u64.wrap (a * 2 ^ b.toNat) else 0) else if k = 9 then (if b < w then a / 2 ^ b.toNat else 0)
  else if k = 10 then b2i (decide (a = b)) else if k = 11 then b2i (decide (a < b)) else b2i (decide (sgn a w < sgn b w))
def doS (k w a b : Int) : Option Int := if k = 4 ∧ cutW b w = 0 then none else some (cutW (rawS k w (cutW a w) (cutW b w)) w)
def vDo : Option Int → V
  | none => .tup [vU64 0, vI 8]
  | some v => .tup [vU64 v, vI 0]
theorem rawS_range {k w a b : Int} (ha : 0 ≤ a) (hb : 0 ≤ b) (ha' : a < 18446744073709551616) : 0 ≤ rawS k w a b ∧ rawS k w a b < 18446744073709551616 := by
  have hw : ∀ x, 0 ≤ IntKind.u64.wrap x ∧ IntKind.u64.wrap x < 18446744073709551616 := fun x => by rw [wrap_u64']; omega
  have hd : ∀ n : Nat, 0 ≤ a / 2 ^ n ∧ a / 2 ^ n < 18446744073709551616 := fun n => by
    have h1 : (0 : Int) ≤ 2 ^ n := Int.le_of_lt (Int.pow_pos (by omega))
    exact ⟨Int.ediv_nonneg ha h1, Int.lt_of_le_of_lt (Int.ediv_le_self _ ha) ha'⟩
  have hi : ∀ b, 0 ≤ b2i b ∧ b2i b < 18446744073709551616 := fun b => by cases b <;> simp [b2i]
  unfold rawS
  by_cases c1 : k = 1
  · rw [if_pos c1]; exact hw _
  rw [if_neg c1]
  by_cases c2 : k = 2
  · rw [if_pos c2]; exact hw _
  rw [if_neg c2]
  by_cases c3 : k = 3
  · rw [if_pos c3]; exact hw _
  rw [if_neg c3]
  by_cases c4 : k = 4
  · rw [if_pos c4]; exact hw _
  rw [if_neg c4]
  by_cases c5 : k = 5
  · rw [if_pos c5]; exact hw _
  rw [if_neg c5]
  by_cases c6 : k = 6
  · rw [if_pos c6]; exact hw _
  rw [if_neg c6]
  by_cases c7 : k = 7
  · rw [if_pos c7]; exact hw _
  rw [if_neg c7]
  by_cases c8 : k = 8
  · rw [if_pos c8]
    split
    · exact hw _
    · omega
  rw [if_neg c8]
  by_cases c9 : k = 9
  · rw [if_pos c9]
    split
    · exact hd _
    · omega
  rw [if_neg c9]
  by_cases c10 : k = 10
  · rw [if_pos c10]; exact hi _
  rw [if_neg c10]
  by_cases c11 : k = 11
  · rw [if_pos c11]; exact hi _
  rw [if_neg c11]
  exact hi _
section
variable (σ : Store) (a b : Int)
theorem one_call (c : Bool) : call T F.word_one [vB c] [] = some (vU64 (b2i c), []) := by
  rw [call_eq (fn := a_word_one) rfl]
  cases c <;> simp -implicitDefEqProofs only [go_sem, a_word_one, b2i, if_true, if_false, Bool.false_eq_true]
theorem ways1_call : call T F.word_ways_1 [vU64 a, vU64 b] σ = some (vU64 (IntKind.u64.wrap (a + b)), σ) := by
  rw [call_eq (fn := a_word_ways_1) rfl]
  simp -implicitDefEqProofs only [go_sem, a_word_ways_1]
theorem ways2_call : call T F.word_ways_2 [vU64 a, vU64 b] σ = some (vU64 (IntKind.u64.wrap (a - b)), σ) := by
  rw [call_eq (fn := a_word_ways_2) rfl]
  simp -implicitDefEqProofs only [go_sem, a_word_ways_2]
theorem ways3_call : call T F.word_ways_3 [vU64 a, vU64 b] σ = some (vU64 (IntKind.u64.wrap (a * b)), σ) := by
  rw [call_eq (fn := a_word_ways_3) rfl]
  simp -implicitDefEqProofs only [go_sem, a_word_ways_3]
theorem ways4_call (h : ¬ b = 0) : call T F.word_ways_4 [vU64 a, vU64 b] σ = some (vU64 (IntKind.u64.wrap (a.tdiv b)), σ) := by
  rw [call_eq (fn := a_word_ways_4) rfl]
  simp -implicitDefEqProofs only [go_sem, a_word_ways_4, h]
theorem ways5_call : call T F.word_ways_5 [vU64 a, vU64 b] σ = some (vU64 (andU a b), σ) := by
  rw [call_eq (fn := a_word_ways_5) rfl]
  have hb : Go.IntKind.u64.bits = 64 := rfl
  simp -implicitDefEqProofs only [go_sem, a_word_ways_5, andU, hb]
  rfl
theorem ways6_call : call T F.word_ways_6 [vU64 a, vU64 b] σ = some (vU64 (orU a b), σ) := by
  rw [call_eq (fn := a_word_ways_6) rfl]
  have hb : Go.IntKind.u64.bits = 64 := rfl
  simp -implicitDefEqProofs only [go_sem, a_word_ways_6, orU, hb]
  rfl
theorem ways7_call : call T F.word_ways_7 [vU64 a, vU64 b] σ = some (vU64 (xorU a b), σ) := by
  rw [call_eq (fn := a_word_ways_7) rfl]
  have hb : Go.IntKind.u64.bits = 64 := rfl
  simp -implicitDefEqProofs only [go_sem, a_word_ways_7, xorU, hb]
  rfl
theorem ways10_call : call T F.word_ways_10 [vU64 a, vU64 b] σ = some (vU64 (b2i (decide (a = b))), σ) := by
  rw [call_eq (fn := a_word_ways_10) rfl]
  have h := one_call (decide (a = b))
  simp -implicitDefEqProofs only [go_sem] at h
  simp -implicitDefEqProofs only [go_sem, a_word_ways_10, h]
theorem ways11_call : call T F.word_ways_11 [vU64 a, vU64 b] σ = some (vU64 (b2i (decide (a < b))), σ) := by
  rw [call_eq (fn := a_word_ways_11) rfl]
  have h := one_call (decide (a < b))
  simp -implicitDefEqProofs only [go_sem] at h
  simp -implicitDefEqProofs only [go_sem, a_word_ways_11, h]
end
theorem and63 {b : Int} (h0 : 0 ≤ b) (h1 : b < 64) : andU b 63 = b := by
  have h : ∀ n : Nat, n < 64 → andU (n : Int) 63 = n := by decide
  have := h b.toNat (by omega)
  rw [Int.toNat_of_nonneg h0] at this
  exact this
theorem n13 : ((13 : Nat) : Int) = 13 := rfl
abbrev sW (w : Int) : Store := [.cells 0 1 [[.f (ei w)]]]
section
variable (w : Int) (hw : mayW w = true) (a b : Int)
include hw
theorem w_range : 1 ≤ w ∧ w ≤ 64 := by rcases mayW_cases hw with h | h | h | h | h <;> omega
theorem Signed_call (ha : 0 ≤ a) (ha' : a < 2 ^ w.toNat) : call T F.word_Signed [vU64 a, vI w] [] = some (vI (sgn a w), []) := by
  rw [call_eq (fn := a_word_Signed) rfl]
  have w1 : Go.IntKind.i64.wrap (64 - 1) = 63 := by decide
  have w8 : Go.IntKind.i64.wrap (64 - 8) = 56 := by decide
  have w16 : Go.IntKind.i64.wrap (64 - 16) = 48 := by decide
  have w32 : Go.IntKind.i64.wrap (64 - 32) = 32 := by decide
  have w64 : Go.IntKind.i64.wrap (64 - 64) = 0 := by decide
  have hb : Go.IntKind.u64.bits = 64 := rfl
  have hb2 : Go.IntKind.i64.bits = 64 := rfl
  have wi : ∀ n : Int, Go.IntKind.i64.wrap n = if n % 18446744073709551616 < 9223372036854775808 then n % 18446744073709551616 else n % 18446744073709551616 - 18446744073709551616 := fun n => by
    unfold Go.IntKind.wrap Go.IntKind.bits Go.IntKind.signed
    simp only [Bool.true_and]
    have : (2 : Int) ^ 64 = 18446744073709551616 := by decide
    have h3 : (2 : Int) ^ (64 - 1) = 9223372036854775808 := by decide
    simp
    split <;> split <;> omega
  rcases mayW_cases hw with rfl | rfl | rfl | rfl | rfl
  all_goals
    simp -implicitDefEqProofs only [Int.reduceSub] at w1 w8 w16 w32 w64
    simp -implicitDefEqProofs only [go_sem, a_word_Signed, sgn, hw, w1, w8, w16, w32, w64, hb, hb2, wrap_u64', wi, Option.some.injEq, Prod.mk.injEq, V.one.injEq, C.f.injEq, Fz.lit.injEq, Value.int.injEq]
    simp at ha' ⊢
    first
      | (rw [Int.fdiv_eq_ediv_of_nonneg _ (by omega)]; split <;> split <;> omega)
      | (split <;> split <;> omega)
theorem ways8_call (ha : 0 ≤ a) (ha' : a < 18446744073709551616) (hb : 0 ≤ b) (hb' : b < 18446744073709551616) : call T F.word_ways_8 [vU64 a, vU64 b, .one (.ptr 0 0 0 0)] (sW w) = some (vU64 (if b < w then IntKind.u64.wrap (a * 2 ^ b.toNat) else 0), sW w) := by
  rw [call_eq (fn := a_word_ways_8) rfl]
  have hr := w_range w hw
  have h := one_call (decide (b < w))
  have ww : IntKind.u64.wrap w = w := wrap_u64 (by omega) (by omega)
  have hbit : Go.IntKind.u64.bits = 64 := rfl
  simp -implicitDefEqProofs only [go_sem] at h
  have e : andU b 63 = IntKind.u64.wrap ((BitVec.ofInt 64 b &&& BitVec.ofInt 64 63).toNat : Int) := rfl
  by_cases c : b < w
  · have h6 := and63 hb (show b < 64 by omega)
    rw [e] at h6
    have hm : min b.toNat 64 = b.toNat := by omega
    have hww : IntKind.u64.wrap (1 * IntKind.u64.wrap (a * 2 ^ b.toNat)) = IntKind.u64.wrap (a * 2 ^ b.toNat) := by
      rw [Int.one_mul]
      exact wrap_u64 (by rw [wrap_u64']; omega) (by rw [wrap_u64']; omega)
    rw [decide_eq_true c] at h
    simp -implicitDefEqProofs only [go_sem, a_word_ways_8, h, ww, b2i, eq_true c, h6, hb, hm, hbit, hww, if_true]
    show some (vU64 (IntKind.u64.wrap (1 * IntKind.u64.wrap (a * 2 ^ min (andU b 63).toNat 64))), sW w) = _
    rw [and63 hb (by omega), hm, hww]
  · have h6 : 0 ≤ andU b 63 := by
      unfold andU
      rw [wrap_u64']
      omega
    rw [e] at h6
    have hz : ∀ x, IntKind.u64.wrap (0 * x) = 0 := fun x => by rw [Int.zero_mul]; rfl
    rw [decide_eq_false c] at h
    simp -implicitDefEqProofs only [go_sem, a_word_ways_8, h, ww, b2i, c, h6, hz, if_false, Bool.false_eq_true]
theorem ways9_call (ha : 0 ≤ a) (ha' : a < 18446744073709551616) (hb : 0 ≤ b) (hb' : b < 18446744073709551616) : call T F.word_ways_9 [vU64 a, vU64 b, .one (.ptr 0 0 0 0)] (sW w) = some (vU64 (if b < w then a / 2 ^ b.toNat else 0), sW w) := by
  rw [call_eq (fn := a_word_ways_9) rfl]
  have hr := w_range w hw
  have h := one_call (decide (b < w))
  have ww : IntKind.u64.wrap w = w := wrap_u64 (by omega) (by omega)
  have hbit : Go.IntKind.u64.bits = 64 := rfl
  simp -implicitDefEqProofs only [go_sem] at h
  have e : andU b 63 = IntKind.u64.wrap ((BitVec.ofInt 64 b &&& BitVec.ofInt 64 63).toNat : Int) := rfl
  by_cases c : b < w
  · have h6 := and63 hb (show b < 64 by omega)
    rw [e] at h6
    have hm : min b.toNat 64 = b.toNat := by omega
    have hp : (0 : Int) ≤ 2 ^ b.toNat := Int.le_of_lt (Int.pow_pos (by omega))
    have hd : a.fdiv (2 ^ b.toNat) = a / 2 ^ b.toNat := Int.fdiv_eq_ediv_of_nonneg _ hp
    have hww : IntKind.u64.wrap (1 * (a / 2 ^ b.toNat)) = a / 2 ^ b.toNat := by
      rw [Int.one_mul]
      exact wrap_u64 (Int.ediv_nonneg ha hp) (Int.lt_of_le_of_lt (Int.ediv_le_self _ ha) ha')
    rw [decide_eq_true c] at h
    simp -implicitDefEqProofs only [go_sem, a_word_ways_9, h, ww, b2i, eq_true c, h6, hb, hm, hbit, hd, hww, if_true]
    show some (vU64 (IntKind.u64.wrap (1 * a.fdiv (2 ^ min (andU b 63).toNat 64))), sW w) = _
    rw [and63 hb (by omega), hm, hd, hww]
  · have h6 : 0 ≤ andU b 63 := by
      unfold andU
      rw [wrap_u64']
      omega
    rw [e] at h6
    have hz : ∀ x, IntKind.u64.wrap (0 * x) = 0 := fun x => by rw [Int.zero_mul]; rfl
    rw [decide_eq_false c] at h
    simp -implicitDefEqProofs only [go_sem, a_word_ways_9, h, ww, b2i, c, h6, hz, if_false, Bool.false_eq_true]
theorem ways12_call (ha : 0 ≤ a) (ha' : a < 2 ^ w.toNat) (hb : 0 ≤ b) (hb' : b < 2 ^ w.toNat) : call T F.word_ways_12 [vU64 a, vU64 b, .one (.ptr 0 0 0 0)] (sW w) = some (vU64 (b2i (decide (sgn a w < sgn b w))), sW w) := by
  rw [call_eq (fn := a_word_ways_12) rfl]
  have h := one_call (decide (sgn a w < sgn b w))
  have h1 := Signed_call w hw a ha ha'
  have h2 := Signed_call w hw b hb hb'
  simp -implicitDefEqProofs only [go_sem] at h h1 h2
  simp -implicitDefEqProofs only [go_sem, a_word_ways_12, h, h1, h2]
abbrev waysV : V := .agg [.f (.lit .nilFunc), .fn F.word_ways_1 [] [], .fn F.word_ways_2 [] [], .fn F.word_ways_3 [] [], .fn F.word_ways_4 [] [], .fn F.word_ways_5 [] [], .fn F.word_ways_6 [] [], .fn F.word_ways_7 [] [],
  .fn F.word_ways_8 [] [.ptr 0 0 0 0], .fn F.word_ways_9 [] [.ptr 0 0 0 0], .fn F.word_ways_10 [] [], .fn F.word_ways_11 [] [], .fn F.word_ways_12 [] [.ptr 0 0 0 0]]
omit hw in
theorem ways_call : call T F.word_ways [vI w] [] = some (waysV, sW w) := by
  rw [call_eq (fn := a_word_ways) rfl]
  simp -implicitDefEqProofs only [go_sem, a_word_ways]
set_option maxHeartbeats 1000000 in
theorem Do_call (k : Int) (hk : 1 ≤ k ∧ k ≤ 12) (ha : 0 ≤ a) (ha' : a < 18446744073709551616) (hb : 0 ≤ b) (hb' : b < 18446744073709551616) : call T F.word_Do [vI k, vI w, vU64 a, vU64 b] [] = some (vDo (doS k w a b), []) := by
  rw [call_eq (fn := a_word_Do) rfl]
  have hT : call T F.word_Two [vI k, vI w] [] = some (vB true, []) := by
    rw [call_eq (fn := a_word_Two) rfl]
    simp -implicitDefEqProofs only [go_sem, a_word_Two, eq_true hk.1, eq_true hk.2, hw]
  have c1 := word_Cut_call a w ha ha'
  have c2 := word_Cut_call b w hb hb'
  obtain ⟨r1, r2⟩ := cutW_range (w := w) ha
  obtain ⟨r3, r4⟩ := cutW_range (w := w) hb
  obtain ⟨q1, q2⟩ := cutW_lt (v := a) hw
  obtain ⟨q3, q4⟩ := cutW_lt (v := b) hw
  have hW := ways_call w
  obtain ⟨z1, z2⟩ := rawS_range (k := k) (w := w) r1 r3 r2
  have hC := word_Cut_call (rawS k w (cutW a w) (cutW b w)) w z1 z2
  obtain ⟨n, hn⟩ : ∃ n : Nat, k = n := ⟨k.toNat, by omega⟩
  simp -implicitDefEqProofs only [go_sem] at hT c1 c2 hW
  by_cases d : k = 4 ∧ cutW b w = 0
  · rw [doS, if_pos d]
    obtain ⟨rfl, d2⟩ := d
    simp -implicitDefEqProofs only [go_sem, a_word_Do, vDo, hT, c1, c2, d2]
  · rw [doS, if_neg d]
    have hk' : k = 1 ∨ k = 2 ∨ k = 3 ∨ k = 4 ∨ k = 5 ∨ k = 6 ∨ k = 7 ∨ k = 8 ∨ k = 9 ∨ k = 10 ∨ k = 11 ∨ k = 12 := by omega
    rcases hk' with rfl | rfl | rfl | rfl | rfl | rfl | rfl | rfl | rfl | rfl | rfl | rfl
    · have hg := ways1_call (sW w) (cutW a w) (cutW b w)
      simp -implicitDefEqProofs only [go_sem, rawS] at hg hC ⊢
      simp -implicitDefEqProofs only [go_sem, a_word_Do, vDo, hT, c1, c2, hW, hg, hC, n13]
    · have hg := ways2_call (sW w) (cutW a w) (cutW b w)
      simp -implicitDefEqProofs only [go_sem, rawS] at hg hC ⊢
      simp -implicitDefEqProofs only [go_sem, a_word_Do, vDo, hT, c1, c2, hW, hg, hC, n13]
    · have hg := ways3_call (sW w) (cutW a w) (cutW b w)
      simp -implicitDefEqProofs only [go_sem, rawS] at hg hC ⊢
      simp -implicitDefEqProofs only [go_sem, a_word_Do, vDo, hT, c1, c2, hW, hg, hC, n13]
    · have d2 : ¬ cutW b w = 0 := fun h => d ⟨rfl, h⟩
      have hg := ways4_call (sW w) (cutW a w) (cutW b w) d2
      simp -implicitDefEqProofs only [go_sem, rawS] at hg hC ⊢
      simp -implicitDefEqProofs only [go_sem, a_word_Do, vDo, hT, c1, c2, hW, hg, hC, d2, n13]
    · have hg := ways5_call (sW w) (cutW a w) (cutW b w)
      simp -implicitDefEqProofs only [go_sem, rawS] at hg hC ⊢
      simp -implicitDefEqProofs only [go_sem, a_word_Do, vDo, hT, c1, c2, hW, hg, hC, n13]
    · have hg := ways6_call (sW w) (cutW a w) (cutW b w)
      simp -implicitDefEqProofs only [go_sem, rawS] at hg hC ⊢
      simp -implicitDefEqProofs only [go_sem, a_word_Do, vDo, hT, c1, c2, hW, hg, hC, n13]
    · have hg := ways7_call (sW w) (cutW a w) (cutW b w)
      simp -implicitDefEqProofs only [go_sem, rawS] at hg hC ⊢
      simp -implicitDefEqProofs only [go_sem, a_word_Do, vDo, hT, c1, c2, hW, hg, hC, n13]
    · have hg := ways8_call w hw (cutW a w) (cutW b w) r1 r2 r3 r4
      simp -implicitDefEqProofs only [go_sem, rawS] at hg hC ⊢
      simp -implicitDefEqProofs only [go_sem, a_word_Do, vDo, hT, c1, c2, hW, hg, hC, n13]
    · have hg := ways9_call w hw (cutW a w) (cutW b w) r1 r2 r3 r4
      simp -implicitDefEqProofs only [go_sem, rawS] at hg hC ⊢
      simp -implicitDefEqProofs only [go_sem, a_word_Do, vDo, hT, c1, c2, hW, hg, hC, n13]
    · have hg := ways10_call (sW w) (cutW a w) (cutW b w)
      simp -implicitDefEqProofs only [go_sem, rawS] at hg hC ⊢
      simp -implicitDefEqProofs only [go_sem, a_word_Do, vDo, hT, c1, c2, hW, hg, hC, n13]
    · have hg := ways11_call (sW w) (cutW a w) (cutW b w)
      simp -implicitDefEqProofs only [go_sem, rawS] at hg hC ⊢
      simp -implicitDefEqProofs only [go_sem, a_word_Do, vDo, hT, c1, c2, hW, hg, hC, n13]
    · have hg := ways12_call w hw (cutW a w) (cutW b w) q1 q2 q3 q4
      simp -implicitDefEqProofs only [go_sem, rawS] at hg hC ⊢
      simp -implicitDefEqProofs only [go_sem, a_word_Do, vDo, hT, c1, c2, hW, hg, hC, n13]
end
end AC
