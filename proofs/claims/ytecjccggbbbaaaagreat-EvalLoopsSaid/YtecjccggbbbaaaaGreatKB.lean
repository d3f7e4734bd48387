import Derived.Test.YtecjccggbbbaaaaGreatKA
import Derived.Test.YtecjccggbbbaaaaGreatData
set_option linter.unusedVariables false
set_option linter.unusedSimpArgs false
namespace AC
open Go Go.A Go.A.Lex
def arith (k : Int) : Bool := decide (k = 1) || decide (k = 2) || decide (k = 3) || decide (k = 5) || decide (k = 6) || decide (k = 7) || decide (k = 8) || decide (k = 9)
def asks (k : Int) : Bool := decide (k = 4) || decide (k = 10) || decide (k = 11) || decide (k = 12)
def okOp (o : POp) : Prop := 0 ≤ o.imm ∧ o.imm < 18446744073709551616
/-- What a kind takes, of a shape that there is; and whether the rest is right. -/
def takesS (o : POp) : List (Int × Int) × Bool :=
  let own := (o.bits, o.lanes)
  if o.kind = 0 then ([], decide (cutW o.imm o.bits = o.imm))
  else if arith o.kind then ([own, own], decide (o.imm = 0))
  else if asks o.kind then ([own, own], decide (o.imm = 0) && decide (o.lanes = 1))
  else if o.kind = 13 then ([(1, 1), own, own], decide (o.imm = 0))
  else if o.kind = 14 then ([(min o.imm 128, 1)], decide (o.lanes = 1) && (decide (o.imm < o.bits) && mayW o.imm))
  else if o.kind = 15 then ([(min o.imm 128, 1)], decide (o.lanes = 1) && (decide (o.bits < o.imm) && (decide (o.imm ≤ 64) && mayW o.imm)))
  else if o.kind = 16 then ([(64, 1)], decide (o.imm = 0) && decide (8 ≤ o.bits))
  else if o.kind = 17 then ([(64, 1), own], decide (o.imm = 0) && decide (8 ≤ o.bits))
  else if o.kind = 18 ∨ o.kind = 19 then ([(1, 1), (64, 1), own], decide (o.imm = 0) && (decide (o.lanes = 1) && decide (8 ≤ o.bits)))
  else if o.kind = 20 then ([(1, 1), own, own, own], decide (o.imm = 0) && decide (o.lanes = 1))
  else if o.kind = 21 then (List.replicate o.lanes.toNat (o.bits, 1), decide (o.imm = 0) && !decide (o.lanes = 1))
  else if o.kind = 22 then ([own], !decide (o.lanes = 1) && decide (o.imm < o.lanes))
  else ([], false)
def vTakes (o : POp) : V := .tup [vSs (takesS o).1, vB (takesS o).2]
set_option maxHeartbeats 4000000
section
variable (o : POp) (hs : shapeS o.bits o.lanes = true) (ho : okOp o)
include hs ho
theorem takes_a (h : arith o.kind = true) : call T F.kind_takes [vOp o] [] = some (vTakes o, []) := by
  rw [call_eq (fn := a_kind_takes) rfl]
  obtain ⟨kind, bits, lanes, dst, args, imm⟩ := o
  have h' := h
  simp only [arith, Bool.or_eq_true, decide_eq_true_eq] at h h'
  rcases h' with ((((((rfl | rfl) | rfl) | rfl) | rfl) | rfl) | rfl) | rfl
  all_goals simp -implicitDefEqProofs only [go_sem, a_kind_takes, vTakes, takesS, rs, arith, h]
theorem takes_b (h : asks o.kind = true) : call T F.kind_takes [vOp o] [] = some (vTakes o, []) := by
  rw [call_eq (fn := a_kind_takes) rfl]
  obtain ⟨kind, bits, lanes, dst, args, imm⟩ := o
  have h' := h
  simp only [asks, Bool.or_eq_true, decide_eq_true_eq] at h h'
  by_cases c : imm = 0
  all_goals
    rcases h' with ((rfl | rfl) | rfl) | rfl
    all_goals simp -implicitDefEqProofs only [go_sem, a_kind_takes, vTakes, takesS, rs, arith, asks, h, c]
theorem takes_c (h1 : arith o.kind = false) (h2 : asks o.kind = false) : call T F.kind_takes [vOp o] [] = some (vTakes o, []) := by
  rw [call_eq (fn := a_kind_takes) rfl]
  obtain ⟨kind, bits, lanes, dst, args, imm⟩ := o
  obtain ⟨hm, hl⟩ := shapeS_lanes hs
  simp only [arith, Bool.or_eq_false_iff, decide_eq_false_iff_not] at h1
  simp only [asks, Bool.or_eq_false_iff, decide_eq_false_iff_not] at h2
  obtain ⟨⟨⟨⟨⟨⟨⟨n1, n2⟩, n3⟩, n5⟩, n6⟩, n7⟩, n8⟩, n9⟩ := h1
  obtain ⟨⟨⟨n4, n10⟩, n11⟩, n12⟩ := h2
  dsimp only at *
  by_cases c0 : kind = 0
  · subst c0
    have := word_Cut_call imm bits ho.1 ho.2
    simp -implicitDefEqProofs only [go_sem] at this
    simp -implicitDefEqProofs only [go_sem, a_kind_takes, vTakes, takesS, rs, this]
  by_cases c13 : kind = 13
  · subst c13
    simp -implicitDefEqProofs only [go_sem, a_kind_takes, vTakes, takesS, rs, arith, asks]
  have hmi : Go.IntKind.i64.wrap (min imm 128) = min imm 128 := wrap_i64 (by have := ho.1; dsimp only at this; omega) (by omega)
  have hbu : Go.IntKind.u64.wrap bits = bits := by
    have := mayW_cases hm
    exact wrap_u64 (by omega) (by omega)
  have hlu : Go.IntKind.u64.wrap lanes = lanes := wrap_u64 (by omega) (by omega)
  by_cases c14 : kind = 14
  · subst c14
    by_cases d1 : lanes = 1
    · by_cases d2 : imm < bits
      · have hii : Go.IntKind.i64.wrap imm = imm := wrap_i64 (by have := ho.1; dsimp only at this; omega) (by have := mayW_cases hm; omega)
        simp -implicitDefEqProofs only [go_sem, a_kind_takes, vTakes, takesS, rs, arith, asks, d1, d2, hmi, hbu, hii]
      · simp -implicitDefEqProofs only [go_sem, a_kind_takes, vTakes, takesS, rs, arith, asks, d1, d2, hmi, hbu]
    · simp -implicitDefEqProofs only [go_sem, a_kind_takes, vTakes, takesS, rs, arith, asks, d1, hmi]
  by_cases c15 : kind = 15
  · subst c15
    by_cases d1 : lanes = 1
    · by_cases d2 : bits < imm
      · by_cases d3 : imm ≤ 64
        · have hii : Go.IntKind.i64.wrap imm = imm := wrap_i64 (by have := ho.1; dsimp only at this; omega) (by omega)
          simp -implicitDefEqProofs only [go_sem, a_kind_takes, vTakes, takesS, rs, arith, asks, d1, d2, d3, hmi, hbu, hii]
        · simp -implicitDefEqProofs only [go_sem, a_kind_takes, vTakes, takesS, rs, arith, asks, d1, d2, d3, hmi, hbu]
      · simp -implicitDefEqProofs only [go_sem, a_kind_takes, vTakes, takesS, rs, arith, asks, d1, d2, hmi, hbu]
    · simp -implicitDefEqProofs only [go_sem, a_kind_takes, vTakes, takesS, rs, arith, asks, d1, hmi]
  by_cases c16 : kind = 16
  · subst c16
    by_cases d1 : imm = 0 <;> simp -implicitDefEqProofs only [go_sem, a_kind_takes, vTakes, takesS, rs, arith, asks, d1]
  by_cases c17 : kind = 17
  · subst c17
    by_cases d1 : imm = 0 <;> simp -implicitDefEqProofs only [go_sem, a_kind_takes, vTakes, takesS, rs, arith, asks, d1]
  by_cases c18 : kind = 18
  · subst c18
    by_cases d1 : imm = 0 <;> by_cases d2 : lanes = 1 <;> simp -implicitDefEqProofs only [go_sem, a_kind_takes, vTakes, takesS, rs, arith, asks, d1, d2]
  by_cases c19 : kind = 19
  · subst c19
    by_cases d1 : imm = 0 <;> by_cases d2 : lanes = 1 <;> simp -implicitDefEqProofs only [go_sem, a_kind_takes, vTakes, takesS, rs, arith, asks, d1, d2]
  by_cases c20 : kind = 20
  · subst c20
    by_cases d1 : imm = 0 <;> simp -implicitDefEqProofs only [go_sem, a_kind_takes, vTakes, takesS, rs, arith, asks, d1]
  by_cases c21 : kind = 21
  · subst c21
    have hr := Repeat_2int_call (bits, 1) lanes hl
    simp -implicitDefEqProofs only [go_sem, rs] at hr
    by_cases d1 : imm = 0 <;> simp -implicitDefEqProofs only [go_sem, a_kind_takes, vTakes, takesS, rs, arith, asks, d1, hr, List.map_replicate]
  by_cases c22 : kind = 22
  · subst c22
    by_cases d1 : lanes = 1
    · simp -implicitDefEqProofs only [go_sem, a_kind_takes, vTakes, takesS, rs, arith, asks, d1]
    · simp -implicitDefEqProofs only [go_sem, a_kind_takes, vTakes, takesS, rs, arith, asks, d1, hlu]
  simp -implicitDefEqProofs only [go_sem, a_kind_takes, vTakes, takesS, rs, arith, asks, n1, n2, n3, n4, n5, n6, n7, n8, n9, n10, n11, n12, c0, c13, c14, c15, c16, c17, c18, c19, c20, c21, c22]
theorem takes_call : call T F.kind_takes [vOp o] [] = some (vTakes o, []) := by
  cases h1 : arith o.kind
  · cases h2 : asks o.kind
    · exact takes_c o hs ho h1 h2
    · exact takes_b o hs ho h2
  · exact takes_a o hs ho h1
end
end AC

namespace AC
open Go Go.A Go.A.Lex
def mayO (o : POp) : Bool := shapeS o.bits o.lanes && ((takesS o).2 && ((if stores o.kind then decide (o.dst = 0) else value o.dst) && (decide ((takesS o).1.length = o.args.length) && !o.args.any fun v => !value v)))
@[go_sem] theorem kind_May_1_call (v : Int) (σ : Store) : call T F.kind_May_1 [vI v] σ = some (vB (!value v), σ) := by
  rw [call_eq (fn := a_kind_May_1) rfl]
  simp -implicitDefEqProofs only [go_sem, a_kind_May_1]
@[go_sem] theorem kind_May_call (o : POp) (ho : okOp o) (hl : o.args.length ≤ 4294967296) : call T F.kind_May [vOp o] [] = some (vB (mayO o), []) := by
  rw [call_eq (fn := a_kind_May) rfl]
  cases hs : shapeS o.bits o.lanes
  · simp -implicitDefEqProofs only [go_sem, a_kind_May, mayO, hs]
  have ht := takes_call o hs ho
  have hc := fun σ => ContainsFunc_int_call o.args (fun v => !value v) F.kind_May_1 [] [] σ hl (fun x _ => by simp -implicitDefEqProofs only [go_sem])
  simp -implicitDefEqProofs only [go_sem, vTakes] at ht hc
  cases h1 : (takesS o).2
  · cases h2 : stores o.kind
    · simp -implicitDefEqProofs only [go_sem, a_kind_May, mayO, hs, ht, h1, h2]
    · simp -implicitDefEqProofs only [go_sem, a_kind_May, mayO, hs, ht, h1, h2]
  · cases h2 : stores o.kind
    · cases h3 : value o.dst
      · simp -implicitDefEqProofs only [go_sem, a_kind_May, mayO, hs, ht, h1, h2, h3]
      · by_cases h4 : (takesS o).1.length = o.args.length
        · simp -implicitDefEqProofs only [go_sem, a_kind_May, mayO, hs, ht, h1, h2, h3, h4, hc]
        · have h4' : ¬ ((takesS o).1.length : Int) = (o.args.length : Int) := by omega
          simp -implicitDefEqProofs only [go_sem, a_kind_May, mayO, hs, ht, h1, h2, h3, h4, h4']
    · by_cases h3 : o.dst = 0
      · by_cases h4 : (takesS o).1.length = o.args.length
        · simp -implicitDefEqProofs only [go_sem, a_kind_May, mayO, hs, ht, h1, h2, eq_true h3, h4, hc]
        · have h4' : ¬ ((takesS o).1.length : Int) = (o.args.length : Int) := by omega
          simp -implicitDefEqProofs only [go_sem, a_kind_May, mayO, hs, ht, h1, h2, eq_true h3, h4, h4']
      · simp -implicitDefEqProofs only [go_sem, a_kind_May, mayO, hs, ht, h1, h2, h3]
theorem mayO_shape {o : POp} (h : mayO o = true) : shapeS o.bits o.lanes = true := by
  simp only [mayO, Bool.and_eq_true] at h
  exact h.1
def takesO (o : POp) : List (Int × Int) := if mayO o = true then (takesS o).1 else []
@[go_sem] theorem kind_Takes_call (o : POp) (ho : okOp o) (hl : o.args.length ≤ 4294967296) : call T F.kind_Takes [vOp o] [] = some (vSs (takesO o), []) := by
  rw [call_eq (fn := a_kind_Takes) rfl]
  have hm := kind_May_call o ho hl
  cases h : mayO o
  · simp -implicitDefEqProofs only [go_sem, h] at hm
    simp -implicitDefEqProofs only [go_sem, a_kind_Takes, hm, takesO, h]
  · have ht := takes_call o (mayO_shape h) ho
    simp -implicitDefEqProofs only [go_sem, h, vTakes] at hm ht
    simp -implicitDefEqProofs only [go_sem, a_kind_Takes, hm, ht, takesO, h]
def givesO (o : POp) : Int × Int :=
  if mayO o = false ∨ stores o.kind = true then (0, 0) else if 10 ≤ o.kind ∧ o.kind ≤ 12 then (1, 1) else if o.kind = 22 then (o.bits, 1) else (o.bits, o.lanes)
@[go_sem] theorem kind_Gives_call (o : POp) (ho : okOp o) (hl : o.args.length ≤ 4294967296) : call T F.kind_Gives [vOp o] [] = some (.tup [vI (givesO o).1, vI (givesO o).2], []) := by
  rw [call_eq (fn := a_kind_Gives) rfl]
  have hm := kind_May_call o ho hl
  cases h : mayO o
  · simp -implicitDefEqProofs only [go_sem, h] at hm
    simp -implicitDefEqProofs only [go_sem, a_kind_Gives, hm, givesO, h]
  · simp -implicitDefEqProofs only [go_sem, h] at hm
    cases h1 : stores o.kind
    · by_cases h2 : 10 ≤ o.kind
      · by_cases h3 : o.kind ≤ 12
        · simp -implicitDefEqProofs only [go_sem, a_kind_Gives, hm, givesO, h, h1, h2, h3]
        · by_cases h4 : o.kind = 22
          · simp -implicitDefEqProofs only [h4] at h1 hm h2 h3
            simp -implicitDefEqProofs only [go_sem, a_kind_Gives, hm, givesO, h, h1, h2, h3, h4]
          · simp -implicitDefEqProofs only [go_sem, a_kind_Gives, hm, givesO, h, h1, h2, h3, h4, and_false]
      · have h4 : ¬ o.kind = 22 := by omega
        simp -implicitDefEqProofs only [go_sem, a_kind_Gives, hm, givesO, h, h1, h2, h4, false_and]
    · simp -implicitDefEqProofs only [go_sem, a_kind_Gives, hm, givesO, h, h1]
def impure (k : Int) : Bool := decide (k = 4) || decide (k = 16) || decide (k = 17) || decide (k = 18) || decide (k = 19) || decide (k = 20)
def pure (k : Int) : Bool := !impure k && (decide (0 ≤ k) && decide (k ≤ 22))
@[go_sem] theorem kind_Pure_call (k : Int) : call T F.kind_Pure [vI k] [] = some (vB (pure k), []) := by
  rw [call_eq (fn := a_kind_Pure) rfl]
  by_cases c1 : k = 4
  · simp -implicitDefEqProofs only [go_sem, a_kind_Pure, pure, impure, c1]
  by_cases c2 : k = 16
  · simp -implicitDefEqProofs only [go_sem, a_kind_Pure, pure, impure, c1, c2]
  by_cases c3 : k = 17
  · simp -implicitDefEqProofs only [go_sem, a_kind_Pure, pure, impure, c1, c2, c3]
  by_cases c4 : k = 18
  · simp -implicitDefEqProofs only [go_sem, a_kind_Pure, pure, impure, c1, c2, c3, c4]
  by_cases c5 : k = 19
  · simp -implicitDefEqProofs only [go_sem, a_kind_Pure, pure, impure, c1, c2, c3, c4, c5]
  by_cases c6 : k = 20
  · simp -implicitDefEqProofs only [go_sem, a_kind_Pure, pure, impure, c1, c2, c3, c4, c5, c6]
  by_cases c7 : 0 ≤ k <;> simp -implicitDefEqProofs only [go_sem, a_kind_Pure, pure, impure, c1, c2, c3, c4, c5, c6, c7]
end AC

namespace AC
open Go Go.A Go.A.Lex
def num (n : Int) : Bool := decide (0 ≤ n) && decide (n ≤ 2147483647)
@[go_sem] theorem code_in_1_call (n : Int) (σ : Store) : call T F.code_in_1 [vI n] σ = some (vB (!num n), σ) := by
  rw [call_eq (fn := a_code_in_1) rfl]
  by_cases c : n < 0
  · have c' : ¬ 0 ≤ n := by omega
    simp -implicitDefEqProofs only [go_sem, a_code_in_1, num, c, c']
  · have c' : 0 ≤ n := by omega
    by_cases d : 2147483647 < n
    · have d' : ¬ n ≤ 2147483647 := by omega
      simp -implicitDefEqProofs only [go_sem, a_code_in_1, num, c, c', d, d']
    · have d' : n ≤ 2147483647 := by omega
      simp -implicitDefEqProofs only [go_sem, a_code_in_1, num, c, c', d, d']
theorem any_not {α : Type} (p : α → Bool) (l : List α) : (!l.any fun x => !p x) = l.all p := by
  induction l with
  | nil => rfl
  | cons x r ih => simp only [List.any_cons, List.all_cons, ← ih, Bool.not_or, Bool.not_not]
@[go_sem] theorem code_in_call (l : List Int) (hl : l.length ≤ 4294967296) : call T F.code_in [vIs l] [] = some (vB (l.all num), []) := by
  rw [call_eq (fn := a_code_in) rfl]
  have hc := fun σ => ContainsFunc_int_call l (fun v => !num v) F.code_in_1 [] [] σ hl (fun x _ => by simp -implicitDefEqProofs only [go_sem])
  simp -implicitDefEqProofs only [go_sem] at hc
  simp -implicitDefEqProofs only [go_sem, a_code_in, hc, any_not]
/-- The contract at a list that is spelled. -/
theorem code_in1_call (a : Int) : call T F.code_in [vL [[ei a]]] [] = some (vB (num a), []) := by
  have := code_in_call [a] (by simp)
  simpa only [vIs, List.map_cons, List.map_nil, ri, List.all_cons, List.all_nil, Bool.and_true] using this
theorem code_in2_call (a b : Int) : call T F.code_in [vL [[ei a], [ei b]]] [] = some (vB (num a && num b), []) := by
  have := code_in_call [a, b] (by simp)
  simpa only [vIs, List.map_cons, List.map_nil, ri, List.all_cons, List.all_nil, Bool.and_true] using this
theorem code_in4_call (a b c d : Int) : call T F.code_in [vL [[ei a], [ei b], [ei c], [ei d]]] [] = some (vB (num a && (num b && (num c && num d))), []) := by
  have := code_in_call [a, b, c, d] (by simp)
  simpa only [vIs, List.map_cons, List.map_nil, ri, List.all_cons, List.all_nil, Bool.and_true] using this
def listS (l : List Int) : Bool := decide (l.length ≤ 64) && l.all num
theorem code_lists_loop (ls : List (List Int)) (hl : ls.length ≤ 4294967296) (hls : ∀ l ∈ ls, l.length ≤ 4294967296) : ∀ (d k : Nat) (a0 a1 a2 a6 a7 : V), ls.length - k = d → k ≤ ls.length →
    exec T code_lists_l0 ⟨[a0, a1, a2, vLs ls, vI ls.length, vI k, a6, a7], [], 0, 0⟩ =
      some (if (ls.drop k).all listS = true then (.exit 0, ⟨[vU, vU, vU, vU, vU, vU, vU, vU], [], 0, 0⟩) else (.ret, ⟨[vU, vB false, vU, vU, vU, vU, vU, vU], [], 0, 0⟩)) := by
  intro d
  induction d with
  | zero =>
    intro k a0 a1 a2 a6 a7 h1 h2
    have hk : k = ls.length := by omega
    subst hk
    rw [code_lists_l0_eq, code_lists_b0]
    simp -implicitDefEqProofs only [go_sem, Int.lt_irrefl, List.drop_length, List.all_nil]
  | succ d ih =>
    intro k a0 a1 a2 a6 a7 h1 h2
    have hk : k < ls.length := by omega
    have hd : ls.drop k = ls[k] :: ls.drop (k + 1) := List.drop_eq_getElem_cons hk
    have hc := code_in_call ls[k] (hls _ (List.getElem_mem hk))
    rw [code_lists_l0_eq, code_lists_b0, hd]
    by_cases c : ls[k].length ≤ 64
    · have c' : ¬ (64 : Int) < (ls[k].length : Int) := by omega
      cases ha : ls[k].all num
      · simp -implicitDefEqProofs only [go_sem, ha] at hc
        simp -implicitDefEqProofs only [go_sem, ilt hk, getr hk, rl, c', hc, listS, c, ha]
      · simp -implicitDefEqProofs only [go_sem, ha] at hc
        simp -implicitDefEqProofs only [go_sem, ilt hk, getr hk, rl, c', hc, listS, c, ha, wrap_succ hk hl]
        exact ih (k + 1) _ _ _ _ _ (by omega) (by omega)
    · have c' : (64 : Int) < (ls[k].length : Int) := by omega
      simp -implicitDefEqProofs only [go_sem, ilt hk, getr hk, rl, c', listS, c]
theorem code_lists_call (ls : List (List Int)) (hl : ls.length ≤ 4294967296) (hls : ∀ l ∈ ls, l.length ≤ 4294967296) : call T F.code_lists [vLs ls] [] = some (vB (ls.all listS), []) := by
  rw [call_eq (fn := a_code_lists) rfl]
  have h := fun a0 a1 a2 a6 a7 => code_lists_loop ls hl hls ls.length 0 a0 a1 a2 a6 a7 (by omega) (by omega)
  simp only [List.drop_zero, Int.natCast_zero] at h
  cases ha : ls.all listS <;> simp -implicitDefEqProofs only [go_sem, ha] at h <;> simp -implicitDefEqProofs only [go_sem, a_code_lists, h]
end AC

namespace AC
open Go Go.A Go.A.Lex
def mayPhi (p : PPhi) : Bool := (num p.bits && num p.dst) && (listS p.src && listS p.args)
def mayOp (o : POp) : Bool := (num o.kind && (num o.bits && (num o.lanes && num o.dst))) && listS o.args
def mayEnd (b : PBlock) : Bool := (num b.kind && num b.arg) && listS b.to
def mayB (b : PBlock) : Bool := b.phis.all mayPhi && (b.ops.all mayOp && mayEnd b)
def okPhi (p : PPhi) : Prop := p.src.length ≤ 4294967296 ∧ p.args.length ≤ 4294967296
def okOpL (o : POp) : Prop := okOp o ∧ o.args.length ≤ 4294967296
structure okB (b : PBlock) : Prop where
  phis : b.phis.length ≤ 4294967296
  ops : b.ops.length ≤ 4294967296
  phi : ∀ p ∈ b.phis, okPhi p
  op : ∀ o ∈ b.ops, okOpL o
  to : b.to.length ≤ 4294967296
theorem lists1_call (a : List Int) (ha : a.length ≤ 4294967296) : call T F.code_lists [vL [[eI a]]] [] = some (vB (listS a), []) := by
  have := code_lists_call [a] (by simp) (by simpa using ha)
  simpa only [vLs, List.map_cons, List.map_nil, rl, List.all_cons, List.all_nil, Bool.and_true] using this
theorem lists2_call (a b : List Int) (ha : a.length ≤ 4294967296) (hb : b.length ≤ 4294967296) : call T F.code_lists [vL [[eI a], [eI b]]] [] = some (vB (listS a && listS b), []) := by
  have := code_lists_call [a, b] (by simp) (by simpa using ⟨ha, hb⟩)
  simpa only [vLs, List.map_cons, List.map_nil, rl, List.all_cons, List.all_nil, Bool.and_true] using this
section
variable (b : PBlock) (hb : okB b)
include hb
theorem mayBlock_l0 : ∀ (d k : Nat) (a0 a2 a3 a4 a8 a9 a10 a11 a12 a13 a14 : V), b.phis.length - k = d → k ≤ b.phis.length →
    exec T code_mayBlock_l0 ⟨[a0, .one (.ptr 0 0 0 0), a2, a3, a4, vL (b.phis.map rp), vI b.phis.length, vI k, a8, a9, a10, a11, a12, a13, a14], [.cells 0 5 [cBlock b]], 0, 0⟩ =
      some (match (b.phis.drop k).find? (fun x => !mayPhi x) with | none => (.exit 0, ⟨[vU, .one (.ptr 0 0 0 0), vU, vU, vU, vU, vU, vU, vU, vU, vU, vU, vU, vU, vU], [.cells 0 5 [cBlock b]], 0, 0⟩) | some x => (.ret, ⟨[vU, vU, vB false, vU, vU, vU, vU, vU, vU, vU, vU, vU, vU, vU, vU], [.cells 0 5 [cBlock b], .cells 0 4 [cPhi x]], 0, 0⟩)) := by
  intro d
  induction d with
  | zero =>
    intro k a0 a2 a3 a4 a8 a9 a10 a11 a12 a13 a14 h1 h2
    have hk : k = b.phis.length := by omega
    subst hk
    rw [code_mayBlock_l0_eq, code_mayBlock_b0]
    simp -implicitDefEqProofs only [go_sem, Int.lt_irrefl, List.drop_length, List.find?_nil]
  | succ d ih =>
    intro k a0 a2 a3 a4 a8 a9 a10 a11 a12 a13 a14 h1 h2
    have hk : k < b.phis.length := by omega
    have hd : b.phis.drop k = b.phis[k] :: b.phis.drop (k + 1) := List.drop_eq_getElem_cons hk
    have ho := hb.phi _ (List.getElem_mem hk)
    have c1 := code_in2_call b.phis[k].bits b.phis[k].dst
    have c2 := lists2_call b.phis[k].src b.phis[k].args ho.1 ho.2
    rw [code_mayBlock_l0_eq, code_mayBlock_b0, hd]
    cases e1 : (num b.phis[k].bits && num b.phis[k].dst)
    · simp -implicitDefEqProofs only [go_sem, e1] at c1 c2
      simp -implicitDefEqProofs only [go_sem, ilt hk, getr hk, rp, c1, c2, mayPhi, List.find?_cons, e1]
    · cases e2 : (listS b.phis[k].src && listS b.phis[k].args)
      · simp -implicitDefEqProofs only [go_sem, e1, e2] at c1 c2
        simp -implicitDefEqProofs only [go_sem, ilt hk, getr hk, rp, c1, c2, mayPhi, List.find?_cons, e1, e2]
      · simp -implicitDefEqProofs only [go_sem, e1, e2] at c1 c2
        simp -implicitDefEqProofs only [go_sem, ilt hk, getr hk, rp, c1, c2, mayPhi, List.find?_cons, e1, e2, wrap_succ hk hb.phis]
        exact ih (k + 1) _ _ _ _ _ _ _ _ _ _ _ (by omega) (by omega)
theorem mayBlock_l1 : ∀ (d k : Nat) (a0 a2 a3 a4 a5 a6 a7 a8 a9 a13 a14 : V), b.ops.length - k = d → k ≤ b.ops.length →
    exec T code_mayBlock_l1 ⟨[a0, .one (.ptr 0 0 0 0), a2, a3, a4, a5, a6, a7, a8, a9, vL (b.ops.map ro), vI b.ops.length, vI k, a13, a14], [.cells 0 5 [cBlock b]], 0, 0⟩ =
      some (match (b.ops.drop k).find? (fun x => !mayOp x) with | none => (.exit 2, ⟨[vU, .one (.ptr 0 0 0 0), vU, vU, vU, vU, vU, vU, vU, vU, vU, vU, vU, vU, vU], [.cells 0 5 [cBlock b]], 0, 0⟩) | some x => (.ret, ⟨[vU, vU, vB false, vU, vU, vU, vU, vU, vU, vU, vU, vU, vU, vU, vU], [.cells 0 5 [cBlock b], .cells 0 6 [cOp x]], 0, 0⟩)) := by
  intro d
  induction d with
  | zero =>
    intro k a0 a2 a3 a4 a5 a6 a7 a8 a9 a13 a14 h1 h2
    have hk : k = b.ops.length := by omega
    subst hk
    rw [code_mayBlock_l1_eq, code_mayBlock_b1]
    simp -implicitDefEqProofs only [go_sem, Int.lt_irrefl, List.drop_length, List.find?_nil]
  | succ d ih =>
    intro k a0 a2 a3 a4 a5 a6 a7 a8 a9 a13 a14 h1 h2
    have hk : k < b.ops.length := by omega
    have hd : b.ops.drop k = b.ops[k] :: b.ops.drop (k + 1) := List.drop_eq_getElem_cons hk
    have ho := hb.op _ (List.getElem_mem hk)
    have c1 := code_in4_call b.ops[k].kind b.ops[k].bits b.ops[k].lanes b.ops[k].dst
    have c2 := lists1_call b.ops[k].args ho.2
    rw [code_mayBlock_l1_eq, code_mayBlock_b1, hd]
    cases e1 : (num b.ops[k].kind && (num b.ops[k].bits && (num b.ops[k].lanes && num b.ops[k].dst)))
    · simp -implicitDefEqProofs only [go_sem, e1] at c1 c2
      simp -implicitDefEqProofs only [go_sem, ilt hk, getr hk, ro, c1, c2, mayOp, List.find?_cons, e1]
    · cases e2 : listS b.ops[k].args
      · simp -implicitDefEqProofs only [go_sem, e1, e2] at c1 c2
        simp -implicitDefEqProofs only [go_sem, ilt hk, getr hk, ro, c1, c2, mayOp, List.find?_cons, e1, e2]
      · simp -implicitDefEqProofs only [go_sem, e1, e2] at c1 c2
        simp -implicitDefEqProofs only [go_sem, ilt hk, getr hk, ro, c1, c2, mayOp, List.find?_cons, e1, e2, wrap_succ hk hb.ops]
        exact ih (k + 1) _ _ _ _ _ _ _ _ _ _ _ (by omega) (by omega)
set_option maxRecDepth 10000 in
@[go_sem] theorem mayBlock_call : call T F.code_mayBlock [vBlock b] [] = some (vB (mayB b), []) := by
  rw [call_eq (fn := a_code_mayBlock) rfl]
  have h0 := fun a0 a2 a3 a4 a8 a9 a10 a11 a12 a13 a14 => mayBlock_l0 b hb b.phis.length 0 a0 a2 a3 a4 a8 a9 a10 a11 a12 a13 a14 (by omega) (by omega)
  have h1 := fun a0 a2 a3 a4 a5 a6 a7 a8 a9 a13 a14 => mayBlock_l1 b hb b.ops.length 0 a0 a2 a3 a4 a5 a6 a7 a8 a9 a13 a14 (by omega) (by omega)
  have c1 := code_in2_call b.kind b.arg
  have c2 := lists1_call b.to hb.to
  simp only [List.drop_zero, Int.natCast_zero] at h0 h1
  cases e1 : b.phis.find? (fun x => !mayPhi x) with
  | some x =>
    have a1 := find_some e1
    simp -implicitDefEqProofs only [go_sem, e1] at h0
    simp -implicitDefEqProofs only [go_sem, a_code_mayBlock, h0, mayB, a1]
  | none =>
  have a1 := find_none e1
  cases e2 : b.ops.find? (fun x => !mayOp x) with
  | some x =>
    have a2 := find_some e2
    simp -implicitDefEqProofs only [go_sem, e1, e2] at h0 h1
    simp -implicitDefEqProofs only [go_sem, a_code_mayBlock, h0, h1, mayB, a1, a2]
  | none =>
  have a2 := find_none e2
  simp -implicitDefEqProofs only [go_sem, e1, e2] at h0 h1
  cases e3 : (num b.kind && num b.arg)
  · simp -implicitDefEqProofs only [go_sem, e3] at c1 c2
    simp -implicitDefEqProofs only [go_sem, a_code_mayBlock, h0, h1, c1, c2, mayB, mayEnd, a1, a2, e3]
  · simp -implicitDefEqProofs only [go_sem, e3] at c1 c2
    simp -implicitDefEqProofs only [go_sem, a_code_mayBlock, h0, h1, c1, c2, mayB, mayEnd, a1, a2, e3]
end
@[go_sem] theorem code_May_1_call (b : PBlock) (hb : okB b) (σ : Store) (hσ : Obs.lt σ.length σ = true) : call T F.code_May_1 [vBlock b] σ = some (vB (!mayB b), σ) := by
  rw [call_eq (fn := a_code_May_1) rfl]
  have h := mayBlock_call b hb
  simp -implicitDefEqProofs only [go_sem] at h
  simp -implicitDefEqProofs only [go_sem, a_code_May_1, h, hσ]
structure okF (f : PFunc) : Prop where
  params : f.params.length ≤ 4294967296
  blocks : f.blocks.length ≤ 4294967296
  block : ∀ b ∈ f.blocks, okB b
  /-- How many phis, operations and ends there are. -/
  small : (f.blocks.map fun b => b.phis.length + b.ops.length).sum ≤ 4294967296
def sizeF (f : PFunc) : Nat := f.blocks.length + (f.blocks.map fun b => b.phis.length + b.ops.length).sum
theorem sum_take_le (l : List Nat) : ∀ k, (l.take k).sum ≤ l.sum := by
  induction l with
  | nil => simp
  | cons x r ih =>
    intro k
    cases k with
    | zero => simp
    | succ k =>
      simp only [List.take_succ_cons, List.sum_cons]
      have := ih k
      omega
theorem sum_take_succ (l : List Nat) (k : Nat) (hk : k < l.length) : (l.take (k + 1)).sum = (l.take k).sum + l[k] := by
  induction l generalizing k with
  | nil => simp at hk
  | cons x r ih =>
    cases k with
    | zero => simp
    | succ k =>
      simp only [List.take_succ_cons, List.sum_cons, List.getElem_cons_succ]
      rw [ih k (by simpa using hk)]
      omega
theorem Size_loop (f : PFunc) (hf : okF f) : ∀ (d k : Nat) (a0 a1 a2 a4 a8 : V), f.blocks.length - k = d → k ≤ f.blocks.length →
    exec T code_Size_l0 ⟨[a0, a1, a2, vI ((f.blocks.length + ((f.blocks.map fun b => b.phis.length + b.ops.length).take k).sum : Nat) : Int), a4, vL (f.blocks.map rb), vI f.blocks.length, vI k, a8], [.cells 0 3 [cFunc f]], 0, 0⟩ =
      some (.exit 0, ⟨[vU, vU, vU, vI (sizeF f : Int), vU, vU, vU, vU, vU], [.cells 0 3 [cFunc f]], 0, 0⟩) := by
  intro d
  induction d with
  | zero =>
    intro k a0 a1 a2 a4 a8 h1 h2
    have hk : k = f.blocks.length := by omega
    subst hk
    rw [code_Size_l0_eq, code_Size_b0]
    have e : (f.blocks.map fun b => b.phis.length + b.ops.length).take f.blocks.length = f.blocks.map fun b => b.phis.length + b.ops.length := List.take_of_length_le (by simp)
    simp -implicitDefEqProofs only [go_sem, Int.lt_irrefl, e, sizeF]
  | succ d ih =>
    intro k a0 a1 a2 a4 a8 h1 h2
    have hk : k < f.blocks.length := by omega
    have hk' : k < (f.blocks.map fun b => b.phis.length + b.ops.length).length := by simpa using hk
    have e := sum_take_succ (f.blocks.map fun b => b.phis.length + b.ops.length) k hk'
    have e2 := sum_take_le (f.blocks.map fun b => b.phis.length + b.ops.length) (k + 1)
    have e3 := hf.small
    have e4 := hf.blocks
    simp only [List.getElem_map] at e
    have w1 : Go.IntKind.i64.wrap ((f.blocks[k].phis.length : Int) + (f.blocks[k].ops.length : Int)) = ((f.blocks[k].phis.length + f.blocks[k].ops.length : Nat) : Int) := by
      rw [wrap_i64] <;> omega
    have w2 : Go.IntKind.i64.wrap (((f.blocks.length + ((f.blocks.map fun b => b.phis.length + b.ops.length).take k).sum : Nat) : Int) + ((f.blocks[k].phis.length + f.blocks[k].ops.length : Nat) : Int)) = ((f.blocks.length + ((f.blocks.map fun b => b.phis.length + b.ops.length).take (k + 1)).sum : Nat) : Int) := by
      rw [wrap_i64] <;> omega
    rw [code_Size_l0_eq, code_Size_b0]
    simp -implicitDefEqProofs only [go_sem, ilt hk, getr hk, rb, w1, w2, wrap_succ hk hf.blocks]
    exact ih (k + 1) _ _ _ _ _ (by omega) (by omega)
@[go_sem] theorem code_Size_call (f : PFunc) (hf : okF f) : call T F.code_Size [vFunc f] [] = some (vI (sizeF f : Int), []) := by
  rw [call_eq (fn := a_code_Size) rfl]
  have h := fun a0 a1 a2 a4 a8 => Size_loop f hf f.blocks.length 0 a0 a1 a2 a4 a8 (by omega) (by omega)
  simp only [List.take_zero, List.sum_nil, Nat.add_zero, Int.natCast_zero] at h
  simp -implicitDefEqProofs only [go_sem] at h
  simp -implicitDefEqProofs only [go_sem, a_code_Size, h]
def mayF (f : PFunc) : Bool :=
  !(decide (f.blocks.length < 1) || (decide (64 < f.blocks.length) || (decide (16 < f.params.length) || (decide (512 < sizeF f) || (!num f.ret || !f.params.all num))))) && f.blocks.all mayB
@[go_sem] theorem code_May_call (f : PFunc) (hf : okF f) : call T F.code_May [vFunc f] [] = some (vB (mayF f), []) := by
  rw [call_eq (fn := a_code_May) rfl]
  have hs := code_Size_call f hf
  have hi := code_in1_call f.ret
  have hp := code_in_call f.params hf.params
  have hc := ContainsFunc_Block_call f.blocks (fun b => !mayB b) F.code_May_1 [] [] [.cells 0 3 [cFunc f]] hf.blocks (fun x hx => by
    have := code_May_1_call x (hf.block x hx) [.cells 0 3 [cFunc f]] rfl
    simp -implicitDefEqProofs only [go_sem] at this
    simp -implicitDefEqProofs only [go_sem, this])
  have hp0 : f.params.length ≤ 4294967296 := hf.params
  simp -implicitDefEqProofs only [go_sem] at hs hi hc hp
  by_cases c1 : f.blocks.length < 1
  · have c1' : (f.blocks.length : Int) < 1 := by omega
    simp -implicitDefEqProofs only [go_sem, a_code_May, mayF, c1, c1']
  have c1' : ¬ (f.blocks.length : Int) < 1 := by omega
  by_cases c2 : 64 < f.blocks.length
  · have c2' : (64 : Int) < (f.blocks.length : Int) := by omega
    simp -implicitDefEqProofs only [go_sem, a_code_May, mayF, c1, c1', c2, c2']
  have c2' : ¬ (64 : Int) < (f.blocks.length : Int) := by omega
  by_cases c3 : 16 < f.params.length
  · have c3' : (16 : Int) < (f.params.length : Int) := by omega
    simp -implicitDefEqProofs only [go_sem, a_code_May, mayF, c1, c1', c2, c2', c3, c3']
  have c3' : ¬ (16 : Int) < (f.params.length : Int) := by omega
  by_cases c4 : 512 < sizeF f
  · have c4' : (512 : Int) < (sizeF f : Int) := by omega
    simp -implicitDefEqProofs only [go_sem, a_code_May, mayF, c1, c1', c2, c2', c3, c3', hs, c4, c4']
  have c4' : ¬ (512 : Int) < (sizeF f : Int) := by omega
  cases c5 : num f.ret
  · simp -implicitDefEqProofs only [go_sem, c5] at hi
    simp -implicitDefEqProofs only [go_sem, a_code_May, mayF, c1, c1', c2, c2', c3, c3', hs, c4, c4', hi, c5]
  cases c6 : f.params.all num
  · simp -implicitDefEqProofs only [go_sem, c5, c6] at hi hp
    simp -implicitDefEqProofs only [go_sem, a_code_May, mayF, c1, c1', c2, c2', c3, c3', hs, c4, c4', hi, hp, c5, c6]
  simp -implicitDefEqProofs only [go_sem, c5, c6] at hi hp
  simp -implicitDefEqProofs only [go_sem, a_code_May, mayF, c1, c1', c2, c2', c3, c3', hs, c4, c4', hi, hp, c5, c6, hc, any_not]
end AC
