/- slices.Compact, as a recursion. -/
import Derived.Test.YtecjccggbbbaaaaGreatExt
import Derived.Lib.SlicesCompact
set_option linter.unusedVariables false
set_option linter.unusedSimpArgs false
namespace Go.A
open Go.Lib
def compactF : Option Int → List Int → List Int
  | _, [] => []
  | p, x :: r => if p = some x then compactF p r else x :: compactF (some x) r
theorem compactF_I : ∀ (r : List Int) (x : Int), x :: compactF (some x) r = compactI (x :: r)
  | [], x => rfl
  | y :: r, x => by
    simp only [compactI, compactF]
    by_cases h : x = y
    · subst h
      rw [if_pos rfl, if_pos rfl]
      exact compactF_I r x
    · rw [if_neg (by simpa using h), if_neg h, compactF_I r y]
theorem compactF_none (l : List Int) : compactF none l = compactI l := by
  cases l with
  | nil => rfl
  | cons x r => simp [compactF, compactF_I]
theorem upTo_from (l : List Int) : ∀ (n k : Nat), k + n = l.length → (((List.range' k n).filter (keeps l.toArray)).map (l.toArray[·]!)) = compactF (if k = 0 then none else l[k - 1]?) (l.drop k)
  | 0, k, h => by
    rw [List.drop_of_length_le (by omega)]
    simp [compactF]
  | n + 1, k, h => by
    have hk : k < l.length := by omega
    have ih := upTo_from l n (k + 1) (by omega)
    rw [List.drop_eq_getElem_cons hk]
    simp only [List.range'_succ, compactF, List.filter_cons]
    simp only [Nat.add_one_ne_zero, if_false, Nat.add_sub_cancel, List.getElem?_eq_getElem hk] at ih
    have e : l.toArray[k]! = l[k] := by simp [hk]
    by_cases h0 : k = 0
    · subst h0
      have hkeep : keeps l.toArray 0 = true := by simp [keeps]
      rw [hkeep, if_pos rfl, if_pos rfl, if_neg (by simp), List.map_cons, ih, e]
    · have hk1 : k - 1 < l.length := by omega
      have e1 : l.toArray[k - 1]! = l[k - 1] := by simp [hk1]
      rw [if_neg h0, List.getElem?_eq_getElem hk1]
      by_cases hd : l[k - 1] = l[k]
      · have hkeep : keeps l.toArray k = false := by
          have : ¬ l.toArray[k]! ≠ l.toArray[k - 1]! := by rw [e, e1, hd]; simp
          simp only [keeps, h0, false_or, decide_eq_false_iff_not]
          exact this
        simp only [hkeep, Bool.false_eq_true, if_false]
        rw [if_pos (by rw [hd]), ih, hd]
      · have hkeep : keeps l.toArray k = true := by
          have : l.toArray[k]! ≠ l.toArray[k - 1]! := by rw [e, e1]; exact fun h => hd h.symm
          simp only [keeps, h0, false_or, decide_eq_true_eq]
          exact this
        simp only [hkeep, if_true, List.map_cons]
        rw [if_neg (by simpa using hd), ih, e]
theorem compact_eq (l : List Int) : Lib.compact l = compactI l := by
  have := upTo_from l l.length 0 (by simp)
  simp only [if_true, List.drop_zero] at this
  rw [← compactF_none, ← this, Lib.compact, compactUpTo, List.range_eq_range']
theorem compactI_le : ∀ l : List Int, (compactI l).length ≤ l.length
  | [] => by simp [compactI]
  | [x] => by simp [compactI]
  | x :: y :: r => by
    have := compactI_le (y :: r)
    simp only [compactI]
    split
    · simp only [List.length_cons] at this ⊢; omega
    · simp only [List.length_cons] at this ⊢; omega
end Go.A
