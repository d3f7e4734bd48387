/- What eval's texts need of the check's texts: bounds of data, maps of values. -/
import Derived.Test.YtecjccggbbbaaaaGreatData
set_option linter.unusedVariables false
set_option linter.unusedSimpArgs false
namespace AC
open Go Go.A Go.A.Lex
theorem lt_1_5 (n : Nat) : (1 < n + 5) = True := by (first | (simp; omega) | simp)
theorem lt_3_5 (n : Nat) : (3 < n + 5) = True := by (first | (simp; omega) | simp)
theorem lt_4_5 (n : Nat) : (4 < n + 5) = True := by (first | (simp; omega) | simp)
theorem lt_1_6 (n : Nat) : (1 < n + 6) = True := by (first | (simp; omega) | simp)
theorem lt_3_6 (n : Nat) : (3 < n + 6) = True := by (first | (simp; omega) | simp)
theorem lt_4_6 (n : Nat) : (4 < n + 6) = True := by (first | (simp; omega) | simp)
theorem lt_1_7 (n : Nat) : (1 < n + 7) = True := by (first | (simp; omega) | simp)
theorem lt_3_7 (n : Nat) : (3 < n + 7) = True := by (first | (simp; omega) | simp)
theorem lt_4_7 (n : Nat) : (4 < n + 7) = True := by (first | (simp; omega) | simp)
theorem lt_1_8 (n : Nat) : (1 < n + 8) = True := by (first | (simp; omega) | simp)
theorem lt_3_8 (n : Nat) : (3 < n + 8) = True := by (first | (simp; omega) | simp)
theorem lt_4_8 (n : Nat) : (4 < n + 8) = True := by (first | (simp; omega) | simp)
attribute [go_sem] lt_1_5 lt_3_5 lt_4_5 lt_1_6 lt_3_6 lt_4_6 lt_1_7 lt_3_7 lt_4_7 lt_1_8 lt_3_8 lt_4_8
theorem n5 : ((5 : Nat) : Int) = 5 := rfl
theorem wr1 : Go.IntKind.i64.wrap 1 = 1 := by decide
theorem wr2 : Go.IntKind.i64.wrap 2 = 2 := by decide
theorem wr3 : Go.IntKind.i64.wrap 3 = 3 := by decide
theorem wr4 : Go.IntKind.i64.wrap 4 = 4 := by decide
theorem wr5 : Go.IntKind.i64.wrap 5 = 5 := by decide
attribute [go_sem] n5 wr1 wr2 wr3 wr4 wr5
attribute [go_sem] Option.any_some
def okOp (o : POp) : Prop := 0 ≤ o.imm ∧ o.imm < 18446744073709551616
def okPhi (p : PPhi) : Prop := p.src.length ≤ 4294967296 ∧ p.args.length ≤ 4294967296
def okOpL (o : POp) : Prop := okOp o ∧ o.args.length ≤ 4294967296
structure okB (b : PBlock) : Prop where
  phis : b.phis.length ≤ 4294967296
  ops : b.ops.length ≤ 4294967296
  phi : ∀ p ∈ b.phis, okPhi p
  op : ∀ o ∈ b.ops, okOpL o
  to : b.to.length ≤ 4294967296
structure okF (f : PFunc) : Prop where
  params : f.params.length ≤ 4294967296
  blocks : f.blocks.length ≤ 4294967296
  block : ∀ b ∈ f.blocks, okB b
  /-- How many phis, operations and ends there are. -/
  small : (f.blocks.map fun b => b.phis.length + b.ops.length).sum ≤ 4294967296
def getM {α : Type} (k : Int) : List (Int × α) → Option α
  | [] => none
  | e :: es => if e.1 = k then some e.2 else getM k es
def putM {α : Type} (k : Int) (v : α) : List (Int × α) → List (Int × α)
  | [] => [(k, v)]
  | e :: es => if e.1 = k then (k, v) :: es else e :: putM k v es
def encM {α : Type} (enc : α → V) (D : List (Int × α)) : List (Int × V) := D.map fun e => (e.1, enc e.2)
theorem mget_enc {α : Type} (enc : α → V) (k : Int) : ∀ D : List (Int × α), mget k (encM enc D) = (getM k D).map enc
  | [] => rfl
  | e :: es => by
    have ih := mget_enc enc k es
    unfold encM at ih ⊢
    simp only [List.map_cons, mget, getM]
    by_cases h : e.1 = k
    · rw [if_pos h, if_pos h]; rfl
    · rw [if_neg h, if_neg h, ih]
theorem mput_enc {α : Type} (enc : α → V) (k : Int) (v : α) : ∀ D : List (Int × α), mput k (enc v) (encM enc D) = encM enc (putM k v D)
  | [] => rfl
  | e :: es => by
    have ih := mput_enc enc k v es
    unfold encM at ih ⊢
    simp only [List.map_cons, mput, putM]
    by_cases h : e.1 = k
    · rw [if_pos h, if_pos h]; rfl
    · rw [if_neg h, if_neg h, ih]; rfl
theorem ltm_enc {α : Type} (enc : α → V) (n : Nat) (h : ∀ a, (enc a).lt n = true) : ∀ D : List (Int × α), C.ltm n (encM enc D) = true
  | [] => rfl
  | e :: es => by
    have ih := ltm_enc enc n h es
    unfold encM at ih ⊢
    simp only [List.map_cons, C.ltm, h, ih, Bool.and_self]
theorem get_putM {α : Type} (k v : Int) (a : α) : ∀ S : List (Int × α), getM v (putM k a S) = if k = v then some a else getM v S
  | [] => rfl
  | e :: r => by
    simp only [putM]
    by_cases h : e.1 = k
    · rw [if_pos h]
      simp only [getM, h]
      by_cases h2 : k = v
      · rw [if_pos h2, if_pos h2]
      · rw [if_neg h2, if_neg h2, if_neg h2]
    · rw [if_neg h]
      simp only [getM]
      by_cases h2 : e.1 = v
      · rw [if_pos h2, if_pos h2, if_neg (by omega)]
      · rw [if_neg h2, if_neg h2, get_putM k v a r]
end AC
