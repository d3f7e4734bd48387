import Derived.Test.YtecjccggbbbaaaaGreatKK
import Derived.Test.YtecjccggbbbaaaaGreatKH
import Derived.Test.YtecjccggbbbaaaaGreatKM
set_option linter.unusedVariables false
set_option linter.unusedSimpArgs false
set_option linter.unusedSectionVars false
namespace AC
open Go Go.A Go.A.Lex
theorem call_ext' {n : Nat} {g : List A.V → Store → Option (A.V × Store)} (h : T n = some (.ext g)) (args : List A.V) (σ : Store) : call T n args σ = g args σ := by
  simp only [call, callW, h]
abbrev memO (n : Nat) : Store := [.tok 1 [0], .tok 3 [0], .cells 0 2 [[.f (.sl []), .ap (n + 1) 0 []]]]
theorem New_nil : call T F.mem_New [vL []] [] = some (.tup [.one (cP 2), vI 0], memO 0) := by
  rw [call_eq (fn := a_mem_New) rfl]
  have hb : call T F.bytes_Clone [vL []] [] = some (vL [], []) := by
    rw [call_ext' (g := extBytes 1) rfl]
    simp [extBytes, okSz, LIM]
  simp -implicitDefEqProofs only [go_sem] at hb
  simp -implicitDefEqProofs only [go_sem, a_mem_New, hb]
theorem stepV_two {V : UMap} {o : POp} {a b p q : Int} (hk : 1 ≤ o.kind ∧ o.kind ≤ 12) (ha : o.args = [a, b]) (hp : getM a V = some p) (hq : getM b V = some q) (hw : mayW o.bits = true) (rp : 0 ≤ p ∧ p < 18446744073709551616) (rq : 0 ≤ q ∧ q < 18446744073709551616) :
    stepV V o = some (doS o.kind o.bits p q) := by
  unfold stepV
  rw [if_neg (by omega), if_pos hk, ha]
  simp only [hp, hq]
  rw [if_pos ⟨hw, rp, rq⟩]
theorem stepV_cst {V : UMap} {o : POp} (hk : o.kind = 0) (hl : o.lanes = 1) : stepV V o = some (some o.imm) := by
  unfold stepV
  rw [if_pos hk, if_pos hl]
def twSh (k w : Int) (v : Int) : Int × Int := if v ≤ 2 then (w, 1) else if 10 ≤ k then (1, 1) else (w, 1)
def twOp (k w : Int) : POp := ⟨k, w, 1, 3, [1, 2], 0⟩
def twRet (k w : Int) : Int := if 10 ≤ k then 1 else w
abbrev twF (k w : Int) : PFunc := oneF [w, w] (twRet k w) [twOp k w] 3
theorem two_kinds {k : Int} (hk : 1 ≤ k ∧ k ≤ 12) : (arith k || asks k) = true := by
  have : k = 1 ∨ k = 2 ∨ k = 3 ∨ k = 4 ∨ k = 5 ∨ k = 6 ∨ k = 7 ∨ k = 8 ∨ k = 9 ∨ k = 10 ∨ k = 11 ∨ k = 12 := by omega
  rcases this with rfl | rfl | rfl | rfl | rfl | rfl | rfl | rfl | rfl | rfl | rfl | rfl <;> rfl
section
variable (k w a b : Int) (hk : 1 ≤ k ∧ k ≤ 12) (hw : mayW w = true) (ha : 0 ≤ a ∧ a < 18446744073709551616) (hb : 0 ≤ b ∧ b < 18446744073709551616)
include hk hw
theorem tw_right : RightF (twF k w) [-1] := by
  have hs : stores k = false := by simp only [stores, Bool.or_eq_false_iff, decide_eq_false_iff_not]; omega
  have hl : MTo (twSh k w) 3 [twOp k w] 4 := .val (mop_bin (twSh k w) k w 3 1 2 (two_kinds hk) hw (by omega) (by omega) (by omega) (by omega) (by omega) (by omega) rfl rfl rfl) rfl (by omega) hs (.nil _ _)
  refine (right_of (sh := twSh k w) (ps := [w, w]) (ret := twRet k w) (ops := [twOp k w]) (arg := 3) (d := 3) (e := 4) rfl ?_ (by simp) ?_ ?_ hl (by simp) (by omega) (by omega) (by omega) ?_).1
  · simp [hw]
  · unfold twRet
    split
    · rfl
    · exact hw
  · intro q hq
    have : q = 0 ∨ q = 1 := by simp at hq; omega
    rcases this with rfl | rfl <;> rfl
  · unfold twSh twRet
    rw [if_neg (by omega)]
    split <;> rfl
theorem tw_check : call T F.check_Check [vFunc (twF k w), vI 2] [] = some (vI 0, []) := by
  have R := tw_right k w hk hw
  rw [Check_call _ R.ok 2 _ R.isT, checkS, if_neg (by omega), R.look]
include ha hb
theorem tw_run : ∃ U s c v, runS 9 (twF k w) 1 0 0 (argsV 0 [] [w, w] [a, b]) 0 = some (c, v, U, s) ∧ ((doS k w a b = none ∧ c = 8 ∧ v = 0 ∧ s = 1) ∨ (doS k w a b = some v ∧ c = 0 ∧ s = 2)) := by
  have r1 := cutW_range (w := w) ha.1
  have r2 := cutW_range (w := w) hb.1
  have hd : doS k w (cutW a w) (cutW b w) = doS k w a b := by simp only [doS, cutW_cut w hw a ha.1, cutW_cut w hw b hb.1]
  have g1 : getM 1 (argsV 0 [] [w, w] [a, b]) = some (cutW a w) := rfl
  have g2 : getM 2 (argsV 0 [] [w, w] [a, b]) = some (cutW b w) := rfl
  have hst : stepV (argsV 0 [] [w, w] [a, b]) (twOp k w) = some (doS k w a b) := by
    rw [← hd]
    exact stepV_two (o := twOp k w) hk rfl g1 g2 hw r1 r2
  have hp : phisV (argsV 0 [] [w, w] [a, b]) 0 ⟨[], [twOp k w], 0, 3, []⟩ = some (argsV 0 [] [w, w] [a, b]) := rfl
  have h9 : ¬ (0 : Int) = 9 := by omega
  cases e : doS k w a b with
  | none =>
    rw [e] at hst
    refine ⟨argsV 0 [] [w, w] [a, b], 1, 8, 0, ?_, .inl ⟨rfl, rfl, rfl, rfl⟩⟩
    simp only [runS, twF, oneF, List.getElem?_cons_zero, Int.natCast_zero, hp, opsS, hst, h9, if_false]
    rfl
  | some v =>
    rw [e] at hst
    have g3 : getM 3 (putM 3 v (argsV 0 [] [w, w] [a, b])) = some v := by rw [get_putM, if_pos rfl]
    have h91 : ¬ (0 + 1 : Int) = 9 := by omega
    refine ⟨putM 3 v (argsV 0 [] [w, w] [a, b]), 2, 0, v, ?_, .inr ⟨rfl, rfl, rfl⟩⟩
    have hd0 : (twOp k w).dst = 3 := rfl
    have c3 : (0 : Int) < 3 := by omega
    have k3 : ¬ (0 : Int) = 3 := by omega
    simp only [runS, twF, oneF, List.getElem?_cons_zero, Int.natCast_zero, hp, opsS, hst, h9, h91, hd0, c3, k3, if_true, if_false, g3, Option.map_some]
    rfl
end
end AC

namespace AC
open Go Go.A Go.A.Lex
/-- Operations that all come to values. -/
def opsV : List POp → UMap → Option UMap
  | [], V => some V
  | o :: r, V => match stepV V o with
    | some (some v) => opsV r (if 0 < o.dst then putM o.dst v V else V)
    | _ => none
theorem ops_go {F : Int} : ∀ {ops : List POp} {V V' : UMap} {s : Int}, opsV ops V = some V' → s + ops.length ≤ F → opsS F ops V s = some (.go V' (s + ops.length))
  | [], V, V', s, h, _ => by
    rw [opsV] at h
    injection h with h
    subst h
    simp [opsS]
  | o :: r, V, V', s, h, hs => by
    rw [List.length_cons] at hs
    rw [opsV] at h
    split at h
    · rename_i v e
      rw [opsS, if_neg (by omega), e]
      simp only
      rw [ops_go h (by omega), List.length_cons]
      have : s + 1 + (r.length : Int) = s + ((r.length + 1 : Nat) : Int) := by omega
      rw [this]
    · cases h
theorem ops_stop {F : Int} : ∀ {ops : List POp} {V V' : UMap} {s : Int}, opsV ops V = some V' → s ≤ F → F < s + ops.length → ∃ U o, opsS F ops V s = some (.stop U 9 F o)
  | [], V, V', s, h, h1, h2 => by
    simp at h2
    omega
  | o :: r, V, V', s, h, h1, h2 => by
    rw [List.length_cons] at h2
    rw [opsV] at h
    split at h
    · rename_i v e
      by_cases c : s = F
      · subst c
        exact ⟨V, o, by rw [opsS, if_pos rfl]⟩
      · rw [opsS, if_neg c, e]
        exact ops_stop h (by omega) (by omega)
    · cases h
def tri : Nat → Int
  | 0 => 0
  | j + 1 => tri j + (j + 1)
theorem tri_two : ∀ k : Nat, 2 * tri k = (k : Int) * (k + 1)
  | 0 => by simp [tri]
  | k + 1 => by
    have ih := tri_two k
    have e1 : ((k + 1 : Nat) : Int) = (k : Int) + 1 := by omega
    rw [tri, e1, Int.mul_add, ih, Int.mul_add (k + 1 : Int) (k + 1) 1, Int.add_mul (k : Int) 1 (k + 1)]
    omega
abbrev lb1 : PBlock := ⟨[⟨16, 4, [0, 1], [1, 5]⟩, ⟨16, 6, [0, 1], [3, 7]⟩], [⟨2, 16, 1, 5, [4, 2], 0⟩, ⟨1, 16, 1, 7, [6, 4], 0⟩, ⟨10, 16, 1, 8, [5, 3], 0⟩], 2, 8, [2, 1]⟩
structure LV (V : UMap) (fr : Nat) (x acc : Int) : Prop where
  p : (fr = 0 ∧ getM 1 V = some x ∧ getM 3 V = some acc) ∨ (fr = 1 ∧ getM 5 V = some x ∧ getM 7 V = some acc)
  two : getM 2 V = some 1
  three : getM 3 V = some 0
theorem do16 (k x y : Int) (hx : 0 ≤ x ∧ x < 65536) (hy : 0 ≤ y ∧ y < 65536) (hk : k ≠ 4) : doS k 16 x y = some (cutW (rawS k 16 x y) 16) := by
  have hw : mayW 16 = true := rfl
  rw [doS, if_neg (fun h => hk h.1), cutW_of 16 hw hx.1 (by simpa using hx.2), cutW_of 16 hw hy.1 (by simpa using hy.2)]
section
variable {V : UMap} {fr : Nat} {x acc : Int} (h : LV V fr x acc) (hx : 1 ≤ x ∧ x ≤ 200) (ha : 0 ≤ acc ∧ acc ≤ 40000)
include h hx ha
theorem lb_phis : phisV V fr lb1 = some (putM 6 acc (putM 4 x V)) := by
  rcases h.p with ⟨rfl, h1, h2⟩ | ⟨rfl, h1, h2⟩
  · simp [phisV, allPicks, picks, h1, h2, putPhiV]
  · simp [phisV, allPicks, picks, h1, h2, putPhiV]
abbrev V8 (V : UMap) (x acc : Int) : UMap := putM 8 (if x = 1 then 1 else 0) (putM 7 (acc + x) (putM 5 (x - 1) (putM 6 acc (putM 4 x V))))
theorem lb_ops : opsV lb1.ops (putM 6 acc (putM 4 x V)) = some (V8 V x acc) := by
  have hw : mayW 16 = true := rfl
  have wr : ∀ y : Int, 0 ≤ y ∧ y < 65536 → IntKind.u64.wrap y = y := fun y hy => wrap_u64 (by omega) (by omega)
  have ct : ∀ y : Int, 0 ≤ y ∧ y < 65536 → cutW y 16 = y := fun y hy => cutW_of 16 hw hy.1 (by simpa using hy.2)
  have s1 : stepV (putM 6 acc (putM 4 x V)) ⟨2, 16, 1, 5, [4, 2], 0⟩ = some (some (x - 1)) := by
    rw [stepV_two (o := ⟨2, 16, 1, 5, [4, 2], 0⟩) (p := x) (q := 1) (by simp) rfl (by rw [get_putM, if_neg (by omega), get_putM, if_pos rfl]) (by rw [get_putM, if_neg (by omega), get_putM, if_neg (by omega)]; exact h.two) rfl (by omega) (by omega), do16 _ _ _ (by omega) (by omega) (by simp)]
    show some (some (cutW (IntKind.u64.wrap (x - 1)) 16)) = _
    rw [wr _ (by omega), ct _ (by omega)]
  have s2 : stepV (putM 5 (x - 1) (putM 6 acc (putM 4 x V))) ⟨1, 16, 1, 7, [6, 4], 0⟩ = some (some (acc + x)) := by
    rw [stepV_two (o := ⟨1, 16, 1, 7, [6, 4], 0⟩) (p := acc) (q := x) (by simp) rfl (by rw [get_putM, if_neg (by omega), get_putM, if_pos rfl]) (by rw [get_putM, if_neg (by omega), get_putM, if_neg (by omega), get_putM, if_pos rfl]) rfl (by omega) (by omega), do16 _ _ _ (by omega) (by omega) (by simp)]
    show some (some (cutW (IntKind.u64.wrap (acc + x)) 16)) = _
    rw [wr _ (by omega), ct _ (by omega)]
  have s3 : stepV (putM 7 (acc + x) (putM 5 (x - 1) (putM 6 acc (putM 4 x V)))) ⟨10, 16, 1, 8, [5, 3], 0⟩ = some (some (if x = 1 then 1 else 0)) := by
    rw [stepV_two (o := ⟨10, 16, 1, 8, [5, 3], 0⟩) (p := x - 1) (q := 0) (by simp) rfl (by rw [get_putM, if_neg (by omega), get_putM, if_pos rfl]) (by rw [get_putM, if_neg (by omega), get_putM, if_neg (by omega), get_putM, if_neg (by omega), get_putM, if_neg (by omega)]; exact h.three) rfl (by omega) (by omega), do16 _ _ _ (by omega) (by omega) (by simp)]
    show some (some (cutW (b2i (decide (x - 1 = 0))) 16)) = _
    by_cases c : x = 1
    · rw [if_pos c, decide_eq_true (by omega)]
      rfl
    · rw [if_neg c, decide_eq_false (by omega)]
      rfl
  simp only [opsV, s1, s2, s3, Int.reduceLT, if_true]
theorem lb_next : nextS (V8 V x acc) 2 8 [2, 1] = some (if x = 1 then 2 else 1) := by
  have : getM 8 (V8 V x acc) = some (if x = 1 then 1 else 0) := by rw [get_putM, if_pos rfl]
  rw [nextS, if_pos rfl, this]
  by_cases c : x = 1
  · simp [c]
  · simp [c]
theorem lb_after (hc : x ≠ 1) : LV (V8 V x acc) 1 (x - 1) (acc + x) := by
  refine ⟨.inr ⟨rfl, ?_, ?_⟩, ?_, ?_⟩
  · rw [get_putM, if_neg (by omega), get_putM, if_neg (by omega), get_putM, if_pos rfl]
  · rw [get_putM, if_neg (by omega), get_putM, if_pos rfl]
  · rw [get_putM, if_neg (by omega), get_putM, if_neg (by omega), get_putM, if_neg (by omega), get_putM, if_neg (by omega), get_putM, if_neg (by omega)]
    exact h.two
  · rw [get_putM, if_neg (by omega), get_putM, if_neg (by omega), get_putM, if_neg (by omega), get_putM, if_neg (by omega), get_putM, if_neg (by omega)]
    exact h.three
end
theorem loop_run (F : Int) : ∀ (j : Nat) (V : UMap) (fr : Nat) (acc s : Int) (N : Nat), j < 200 → LV V fr (j + 1) acc → 0 ≤ acc → acc + tri (j + 1) ≤ 30000 → 0 ≤ s ∧ s ≤ F → j + 2 ≤ N →
    ∃ U, runS F loopF N 1 fr V s = some (if s + 4 * (j + 1) + 1 ≤ F then (0, acc + tri (j + 1), U, s + 4 * (j + 1) + 1) else (9, 0, U, F))
  | j, V, fr, acc, s, N, hj, hV, ha, hb, hs, hN => by
    obtain ⟨N, rfl⟩ : ∃ N', N = N' + 1 := ⟨N - 1, by omega⟩
    have ht : 0 ≤ tri j := by
      have := tri_two j
      have : (0 : Int) ≤ (j : Int) * (j + 1) := Int.mul_nonneg (by omega) (by omega)
      omega
    have ht1 : tri (j + 1) = tri j + (j + 1) := rfl
    have hx : (1 : Int) ≤ (j : Int) + 1 ∧ (j : Int) + 1 ≤ 200 := by omega
    have haa : 0 ≤ acc ∧ acc ≤ 40000 := by omega
    have hP := lb_phis hV hx haa
    have hO := lb_ops hV hx haa
    have hbk : loopF.blocks[1]? = some lb1 := rfl
    have hl3 : (lb1.ops.length : Int) = 3 := rfl
    rw [runS, hbk]
    simp only [hP]
    by_cases c3 : s + 3 ≤ F
    · rw [ops_go (F := F) hO (by rw [hl3]; omega), hl3]
      simp only
      by_cases c4 : s + 3 = F
      · refine ⟨V8 V (j + 1) acc, ?_⟩
        rw [if_pos c4, if_neg (by omega), c4]
      · rw [if_neg c4, if_neg (show ¬ lb1.kind = 3 by decide), if_neg (show ¬ lb1.kind = 0 by decide), show nextS (V8 V (j + 1) acc) lb1.kind lb1.arg lb1.to = _ from lb_next hV hx haa]
        simp only
        cases j with
        | zero =>
          simp only [Int.natCast_zero, Int.zero_add, if_true]
          rw [if_pos (by omega)]
          obtain ⟨N, rfl⟩ : ∃ N', N = N' + 1 := ⟨N - 1, by omega⟩
          have hbk2 : loopF.blocks[(2 : Int).toNat]? = some ⟨[], [], 0, 7, []⟩ := rfl
          have hg7 : getM 7 (V8 V 1 acc) = some (acc + 1) := by rw [get_putM, if_neg (by omega), get_putM, if_pos rfl]
          have hp2 : phisV (V8 V 1 acc) ((1 : Nat) : Int) ⟨[], [], 0, 7, []⟩ = some (V8 V 1 acc) := rfl
          have t1 : tri (0 + 1) = 1 := rfl
          rw [runS, hbk2]
          simp only [hp2, opsS]
          refine ⟨V8 V 1 acc, ?_⟩
          by_cases c5 : s + 3 + 1 = F
          · rw [if_pos c5, if_neg (by omega), c5]
          · rw [if_neg c5, if_neg (by decide), if_pos (by decide), hg7, if_pos (by omega)]
            rw [t1]
            simp only [Option.map_some]
            have : s + 3 + 1 + 1 = s + 4 * 1 + 1 := by omega
            rw [this]
        | succ j =>
          have e1 : ((j + 1 : Nat) : Int) = (j : Int) + 1 := by omega
          have cx : ¬ ((j + 1 : Nat) : Int) + 1 = 1 := by omega
          rw [if_neg cx, if_pos (by omega)]
          have hA := lb_after hV hx haa (by omega)
          rw [show ((j + 1 : Nat) : Int) + 1 - 1 = (j : Int) + 1 from by omega] at hA
          have t2 : tri (j + 1 + 1) = tri (j + 1) + ((j + 1 : Nat) + 1) := rfl
          obtain ⟨U, hU⟩ := loop_run F j (V8 V (((j + 1 : Nat) : Int) + 1) acc) 1 (acc + (((j + 1 : Nat) : Int) + 1)) (s + 3 + 1) N (by omega) hA (by omega) (by omega) ⟨by omega, by omega⟩ (by omega)
          refine ⟨U, ?_⟩
          rw [show (1 : Int).toNat = 1 from rfl, hU]
          by_cases c6 : s + 3 + 1 + 4 * ((j : Int) + 1) + 1 ≤ F
          · rw [if_pos c6, if_pos (by omega), t2]
            have a1 : acc + (((j + 1 : Nat) : Int) + 1) + tri (j + 1) = acc + (tri (j + 1) + (((j + 1 : Nat) : Int) + 1)) := by omega
            have a2 : s + 3 + 1 + 4 * ((j : Int) + 1) + 1 = s + 4 * (((j + 1 : Nat) : Int) + 1) + 1 := by omega
            rw [a1, a2]
          · rw [if_neg c6, if_neg (by omega)]
    · obtain ⟨U, o, hst⟩ := ops_stop (F := F) hO hs.2 (by rw [hl3]; omega)
      rw [hst]
      refine ⟨U, ?_⟩
      simp only
      rw [if_neg (by omega)]
end AC

namespace AC
open Go Go.A Go.A.Lex
theorem loop_ok : OkRun loopF := by
  have o : ∀ o : POp, 0 ≤ o.imm ∧ o.imm < 18446744073709551616 → o.args.length ≤ 4294967296 → okOpL o := fun o h1 h2 => ⟨h1, h2⟩
  refine ⟨⟨by simp [loopF], by simp [loopF], fun b hb => ?_, by simp [loopF]⟩, fun b hb => ?_, fun b hb p hp => ?_⟩
  · simp only [loopF, List.mem_cons, List.not_mem_nil, or_false] at hb
    rcases hb with rfl | rfl | rfl
    · exact ⟨by simp, by simp, by simp, by simp [okOpL, okOp], by simp⟩
    · exact ⟨by simp, by simp, by simp [okPhi], by simp [okOpL, okOp], by simp⟩
    · exact ⟨by simp, by simp, by simp, by simp, by simp⟩
  · simp only [loopF, List.mem_cons, List.not_mem_nil, or_false] at hb
    rcases hb with rfl | rfl | rfl <;> simp
  · simp only [loopF, List.mem_cons, List.not_mem_nil, or_false] at hb
    rcases hb with rfl | rfl | rfl
    · simp at hp
    · simp at hp
      rcases hp with rfl | rfl <;> simp
    · simp at hp
theorem loop_all (F : Int) (k : Nat) (hk : 1 ≤ k ∧ k ≤ 200) (hF : 0 ≤ F) : ∃ U, runS F loopF 300 0 0 (argsV 0 [] [16] [(k : Int)]) 0 = some (if 4 * (k : Int) + 4 ≤ F then (0, tri k, U, 4 * (k : Int) + 4) else (9, 0, U, F)) := by
  have hw : mayW 16 = true := rfl
  obtain ⟨j, rfl⟩ : ∃ j, k = j + 1 := ⟨k - 1, by omega⟩
  have hct : cutW ((j + 1 : Nat) : Int) 16 = ((j + 1 : Nat) : Int) := cutW_of 16 hw (by omega) (by show ((j + 1 : Nat) : Int) < 65536; omega)
  have hb0 : loopF.blocks[0]? = some ⟨[], [⟨0, 16, 1, 2, [], 1⟩, ⟨0, 16, 1, 3, [], 0⟩], 1, 0, [1]⟩ := rfl
  obtain ⟨V0, hV0⟩ : ∃ V0 : UMap, V0 = argsV 0 [] [16] [((j + 1 : Nat) : Int)] := ⟨_, rfl⟩
  have e0 : V0 = [(1, ((j + 1 : Nat) : Int))] := by
    rw [hV0]
    show [(((0 : Nat) : Int) + 1, cutW ((j + 1 : Nat) : Int) 16)] = _
    rw [hct]
    rfl
  have hP : phisV V0 ((0 : Nat) : Int) ⟨[], [⟨0, 16, 1, 2, [], 1⟩, ⟨0, 16, 1, 3, [], 0⟩], 1, 0, [1]⟩ = some V0 := rfl
  have hO : opsV [⟨0, 16, 1, 2, [], 1⟩, ⟨0, 16, 1, 3, [], 0⟩] V0 = some (putM 3 0 (putM 2 1 V0)) := by
    simp only [opsV, stepV_cst (o := ⟨0, 16, 1, 2, [], 1⟩) rfl rfl, stepV_cst (o := ⟨0, 16, 1, 3, [], 0⟩) rfl rfl, Int.reduceLT, if_true]
  have htri := tri_two (j + 1)
  have hV : LV (putM 3 0 (putM 2 1 V0)) 0 (j + 1) 0 := by
    rw [e0]
    refine ⟨.inl ⟨rfl, ?_, ?_⟩, ?_, ?_⟩
    · rw [get_putM, if_neg (by omega), get_putM, if_neg (by omega)]
      rfl
    · rw [get_putM, if_pos rfl]
    · rw [get_putM, if_neg (by omega), get_putM, if_pos rfl]
    · rw [get_putM, if_pos rfl]
  have hb30 : tri (j + 1) ≤ 30000 := by
    have : ((j + 1 : Nat) : Int) * (((j + 1 : Nat) : Int) + 1) ≤ 200 * 201 := Int.mul_le_mul (by omega) (by omega) (by omega) (by omega)
    omega
  rw [← hV0, runS, hb0]
  simp only [hP]
  by_cases c2 : (2 : Int) ≤ F
  · rw [ops_go (F := F) hO (by simp; omega)]
    simp only [List.length_cons, List.length_nil]
    by_cases c3 : (2 : Int) = F
    · refine ⟨putM 3 0 (putM 2 1 V0), ?_⟩
      rw [if_pos (by omega), if_neg (by omega), ← c3]
      rfl
    · obtain ⟨U, hU⟩ := loop_run F j (putM 3 0 (putM 2 1 V0)) 0 0 3 299 (by omega) hV (by omega) (by omega) ⟨by omega, by omega⟩ (by omega)
      refine ⟨U, ?_⟩
      rw [if_neg (by omega), if_neg (by decide), if_neg (by decide), show nextS (putM 3 0 (putM 2 1 V0)) 1 0 [1] = some 1 from rfl]
      simp only
      rw [if_pos (by omega), show (1 : Int).toNat = 1 from rfl, show (0 : Int) + ((0 + 1 + 1 : Nat) : Int) + 1 = 3 from by omega, hU]
      by_cases c4 : 3 + 4 * ((j : Int) + 1) + 1 ≤ F
      · rw [if_pos c4, if_pos (by omega), Int.zero_add]
        have : 3 + 4 * ((j : Int) + 1) + 1 = 4 * ((j + 1 : Nat) : Int) + 4 := by omega
        rw [this]
      · rw [if_neg c4, if_neg (by omega)]
  · obtain ⟨U, o, hst⟩ := ops_stop (F := F) hO hF (by simp; omega)
    refine ⟨U, ?_⟩
    rw [hst, if_neg (by omega)]
set_option maxRecDepth 10000 in
set_option maxHeartbeats 1000000 in
theorem Loops_call (hA : call T F.locksteplaw13_awake [] [] = some (vB true, [])) (n less : Int) (hn : 0 ≤ n ∧ n < 256) (hl : 0 ≤ less ∧ less < 65536) :
    call T F.locksteplaw13_EvalLoops [.one (.f (.lit (.int .u8 n))), .one (.f (.lit (.int .u16 less)))] [] = some (vB true, []) := by
  rw [call_eq (fn := a_locksteplaw13_EvalLoops) rfl]
  obtain ⟨k, hk⟩ : ∃ k : Nat, (k : Int) = 1 + n % 200 := ⟨(1 + n % 200).toNat, by omega⟩
  obtain ⟨st, hst⟩ : ∃ st : Int, st = 4 * (k : Int) + 4 := ⟨_, rfl⟩
  obtain ⟨fu, hfu⟩ : ∃ fu : Int, fu = st - 1 - less % st := ⟨_, rfl⟩
  have hk1 : 1 ≤ k ∧ k ≤ 200 := by omega
  have hls : 0 ≤ less % st ∧ less % st < st := ⟨Int.emod_nonneg _ (by omega), Int.emod_lt_of_pos _ (by omega)⟩
  have htri := tri_two k
  have hkk : (k : Int) * (k + 1) ≤ 200 * 201 := Int.mul_le_mul (by omega) (by omega) (by omega) (by omega)
  have hkk0 : (0 : Int) ≤ (k : Int) * (k + 1) := Int.mul_nonneg (by omega) (by omega)
  obtain ⟨U1, r1⟩ := loop_all st k hk1 (by omega)
  obtain ⟨U2, r2⟩ := loop_all fu k hk1 (by omega)
  rw [if_pos (by omega), ← hst] at r1
  rw [if_neg (by omega)] at r2
  have hN := New_nil
  let σ : Store := [.cells 0 3 [cFunc loopF], .tok 1 [0], .tok 3 [0], .cells 0 2 [[.f (.sl []), .ap 2 0 []]]]
  have hσ : Ok σ := by
    unfold Ok
    rfl
  let σ2 : Store := [.cells 0 3 [cFunc loopF], .tok 1 [0], .tok 3 [0], .cells 0 2 [[.f (.sl []), .ap 2 0 []]], bR 0 (tri k) st]
  have hσ2 : Ok σ2 := by
    unfold Ok
    rfl
  have hR1 := Run_call hσ loopF loop_ok 3 (by simp [σ]) st (by omega) loop_check [(k : Int)] rfl (by simp; omega) 300 0 (tri k) st U1 r1
  have hR2 := Run_call hσ2 loopF loop_ok 3 (by simp [σ2]) fu (by omega) loop_check [(k : Int)] rfl (by simp; omega) 300 9 0 fu U2 r2
  have wn : IntKind.i64.wrap n = n := by rw [wrap_i64] <;> omega
  have mn : n.tmod 200 = n % 200 := Int.tmod_eq_emod_of_nonneg hn.1
  have w1 : IntKind.i64.wrap (1 + n % 200) = (k : Int) := by rw [wrap_i64] <;> omega
  have w12 : IntKind.i64.wrap (n % 200) = n % 200 := by rw [wrap_i64] <;> omega
  have w2 : IntKind.i64.wrap (4 * (k : Int)) = 4 * k := by rw [wrap_i64] <;> omega
  have w3 : IntKind.i64.wrap (3 + 4 * (k : Int)) = 3 + 4 * k := by rw [wrap_i64] <;> omega
  have w4 : IntKind.i64.wrap (3 + 4 * (k : Int) + 1) = st := by rw [wrap_i64] <;> omega
  have w5 : IntKind.u64.wrap (k : Int) = k := wrap_u64 (by omega) (by omega)
  have w6 : IntKind.i64.wrap less = less := by rw [wrap_i64] <;> omega
  have m6 : less.tmod st = less % st := Int.tmod_eq_emod_of_nonneg hl.1
  have w7 : IntKind.i64.wrap (less % st) = less % st := by rw [wrap_i64] <;> omega
  have w8 : IntKind.i64.wrap (st - 1) = st - 1 := by rw [wrap_i64] <;> omega
  have w9 : IntKind.i64.wrap (st - 1 - less % st) = fu := by rw [wrap_i64] <;> omega
  have w10 : IntKind.i64.wrap ((k : Int) + 1) = (k : Int) + 1 := by rw [wrap_i64] <;> omega
  have w11 : IntKind.i64.wrap ((k : Int) * (k + 1)) = (k : Int) * (k + 1) := by rw [wrap_i64] <;> omega
  have m7 : ((k : Int) * (k + 1)).tdiv 2 = tri k := by rw [Int.tdiv_eq_ediv_of_nonneg hkk0]; omega
  have w13 : IntKind.i64.wrap (tri k) = tri k := by rw [wrap_i64] <;> omega
  have w14 : IntKind.u64.wrap (tri k) = tri k := wrap_u64 (by omega) (by omega)
  have hs0 : ¬ st = 0 := by omega
  simp -implicitDefEqProofs only [go_sem, σ, σ2, loopF, List.map_cons, List.map_nil, rb, ro, rp, ri, ru, ei, eu, eI] at hR1 hR2 hN
  simp -implicitDefEqProofs only [go_sem, a_locksteplaw13_EvalLoops, hA, wn, mn, w1, w12, w2, w3, w4, w5, w6, m6, w7, w8, w9, w10, w11, m7, w13, w14, hs0, hN, hR1, hR2, beq_self_eq_true]
end AC
