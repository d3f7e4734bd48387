/- The functions of two laws about memory are right: asked of the kernel, over a table whose sort is structural, which is the same table. -/
import Derived.Test.YtecjccggbbbaaaaGreatTable
import Derived.Test.YtecjccggbbbaaaaGreatSortC
import Derived.KernelRfl
import Derived.Test.YtecjccggbbbaaaaGreatData
set_option linter.unusedVariables false
set_option linter.unusedSimpArgs false
namespace AC
open Go Go.A
def insI (x : Int) : List Int → List Int
  | [] => [x]
  | y :: r => if x ≤ y then x :: y :: r else y :: insI x r
def insS : List Int → List Int
  | [] => []
  | x :: r => insI x (insS r)
theorem insI_perm (x : Int) : ∀ l, (insI x l).Perm (x :: l)
  | [] => .refl _
  | y :: r => by
    rw [insI]
    split
    · exact .refl _
    · exact ((insI_perm x r).cons y).trans (.swap x y r)
theorem insS_perm : ∀ l, (insS l).Perm l
  | [] => .refl _
  | x :: r => (insI_perm x (insS r)).trans ((insS_perm r).cons x)
theorem insI_sorted (x : Int) : ∀ l, l.Pairwise (fun a b => a ≤ b) → (insI x l).Pairwise (fun a b => a ≤ b)
  | [], _ => by simp [insI]
  | y :: r, h => by
    rw [List.pairwise_cons] at h
    rw [insI]
    split
    · rename_i c
      rw [List.pairwise_cons]
      refine ⟨fun z hz => ?_, List.pairwise_cons.2 h⟩
      rcases List.mem_cons.1 hz with rfl | hz
      · exact c
      · exact Int.le_trans c (h.1 z hz)
    · rename_i c
      rw [List.pairwise_cons]
      refine ⟨fun z hz => ?_, insI_sorted x r h.2⟩
      rcases List.mem_cons.1 ((insI_perm x r).subset hz) with rfl | hz
      · omega
      · exact h.1 z hz
theorem insS_sorted : ∀ l, (insS l).Pairwise (fun a b => a ≤ b)
  | [] => by simp [insS]
  | x :: r => insI_sorted x _ (insS_sorted r)
theorem sortI_ins (l : List Int) : sortI l = insS l := by
  have h1 : (sortI l).Pairwise (fun a b => decide (a ≤ b) = true) := List.pairwise_mergeSort (fun a b c h1 h2 => by simp only [decide_eq_true_eq] at *; omega) (fun a b => by simp only [Bool.or_eq_true, decide_eq_true_eq]; omega) l
  refine List.Perm.eq_of_pairwise (le := fun a b => a ≤ b) (fun a b _ _ h1 h2 => by omega) (h1.imp fun h => by simpa using h) (insS_sorted l) ?_
  exact (List.mergeSort_perm l _).trans (insS_perm l).symm
def sortedOf' (σ : Store) (l : List Int) : Option (V × Store) :=
  if l.length ≤ LIM then some (.one (.own σ.length 0 0 l.length), σ ++ [.cells 0 1 ((insS l).map cellI)]) else none
def sortedTo' (σ : Store) : Option C → Option (V × Store)
  | some (.f (.sl xs)) => (intRows xs).bind (sortedOf' σ)
  | _ => none
def extSorted' (fv : Nat) : List V → Store → Option (V × Store)
  | [.one (.fn g [] [.ptr id ver i o])], σ => if g = fv ∧ o = 0 then sortedTo' σ (σ.cell id ver i 0) else none
  | _, _ => none
theorem sortedOf_eq : sortedOf = sortedOf' := by funext σ l; simp only [sortedOf, sortedOf', sortI_ins]
theorem sortedTo_eq : sortedTo = sortedTo' := by
  funext σ c
  unfold sortedTo sortedTo'
  rw [sortedOf_eq]
  rfl
theorem extSorted_eq (fv : Nat) : extSorted fv = extSorted' fv := by
  funext a σ
  unfold extSorted extSorted'
  rw [sortedTo_eq]
  rfl
def T' (n : Nat) : Option Entry := if n = F.slices_Sorted_int then some (.ext (extSorted' F.slices_Values_int_int__1)) else T n
theorem T_eq : T = T' := by
  funext n
  unfold T'
  split
  · rename_i h
    subst h
    rw [← extSorted_eq]
    rfl
  · rfl
def opS : POp := ⟨17, 8, 1, 0, [1, 2], 0⟩
def trF : PFunc := ⟨[64, 8], 8, [⟨[], [⟨17, 8, 1, 0, [1, 2], 0⟩], 3, 0, []⟩]⟩
def trG : PFunc := ⟨[64, 8], 8, [⟨[], [⟨17, 8, 1, 0, [1, 2], 0⟩, ⟨0, 8, 1, 3, [], 0⟩, ⟨4, 8, 1, 4, [2, 3], 0⟩], 0, 4, []⟩]⟩
def guF : PFunc := ⟨[1, 64, 8, 8], 8, [⟨[], [⟨18, 8, 1, 5, [1, 2, 3], 0⟩, ⟨20, 8, 1, 6, [1, 5, 4, 5], 0⟩, ⟨19, 8, 1, 0, [1, 2, 6], 0⟩], 0, 6, []⟩]⟩
def guG : PFunc := ⟨[1, 64, 8, 8], 8, [⟨[], [⟨16, 8, 1, 5, [2], 0⟩, ⟨4, 8, 1, 6, [5, 4], 0⟩, ⟨17, 8, 1, 0, [2, 6], 0⟩], 0, 6, []⟩]⟩
set_option maxRecDepth 100000
theorem trF_check_run : callW T' (execN T' 20000) F.check_Check [vFunc trF, vI 2] [] = some (vI 0, []) := by kernel_rfl
theorem trF_check : call T F.check_Check [vFunc trF, vI 2] [] = some (vI 0, []) := by
  refine callN_call T 20000 _ _ _ _ ?_
  rw [T_eq]
  exact trF_check_run
theorem trG_check_run : callW T' (execN T' 20000) F.check_Check [vFunc trG, vI 2] [] = some (vI 0, []) := by kernel_rfl
theorem trG_check : call T F.check_Check [vFunc trG, vI 2] [] = some (vI 0, []) := by
  refine callN_call T 20000 _ _ _ _ ?_
  rw [T_eq]
  exact trG_check_run
theorem awake13_run : callW T' (execN T' 20000) F.locksteplaw13_awake [] [] = some (vbool true, []) := by kernel_rfl
theorem awake13 : call T F.locksteplaw13_awake [] [] = some (vbool true, []) := by
  refine callN_call T 20000 _ _ _ _ ?_
  rw [T_eq]
  exact awake13_run
end AC
