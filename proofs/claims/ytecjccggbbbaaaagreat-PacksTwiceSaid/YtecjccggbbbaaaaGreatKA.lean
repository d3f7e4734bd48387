/- The packs laws, asked of the kernel, over a table whose sort is structural, which is the same table. -/
import Derived.Test.YtecjccggbbbaaaaGreatTable
import Derived.Test.YtecjccggbbbaaaaGreatSortC
import Derived.KernelRfl
import Derived.Test.YtecjccggbbbaaaaGreatData
import Derived.Test.YtecjccggbbbaaaaGreatKern
set_option linter.unusedVariables false
set_option linter.unusedSimpArgs false
namespace AC
open Go Go.A
def insI (x : Int) : List Int → List Int
  | [] => [x]
  | y :: r => if x ≤ y then x :: y :: r else y :: insI x r
def insS : List Int → List Int
  | [] => []
  | x :: r => insI x (insS r)
theorem insI_perm (x : Int) : ∀ l, (insI x l).Perm (x :: l)
  | [] => .refl _
  | y :: r => by
    rw [insI]
    split
    · exact .refl _
    · exact ((insI_perm x r).cons y).trans (.swap x y r)
theorem insS_perm : ∀ l, (insS l).Perm l
  | [] => .refl _
  | x :: r => (insI_perm x (insS r)).trans ((insS_perm r).cons x)
theorem insI_sorted (x : Int) : ∀ l, l.Pairwise (fun a b => a ≤ b) → (insI x l).Pairwise (fun a b => a ≤ b)
  | [], _ => by simp [insI]
  | y :: r, h => by
    rw [List.pairwise_cons] at h
    rw [insI]
    split
    · rename_i c
      rw [List.pairwise_cons]
      refine ⟨fun z hz => ?_, List.pairwise_cons.2 h⟩
      rcases List.mem_cons.1 hz with rfl | hz
      · exact c
      · exact Int.le_trans c (h.1 z hz)
    · rename_i c
      rw [List.pairwise_cons]
      refine ⟨fun z hz => ?_, insI_sorted x r h.2⟩
      rcases List.mem_cons.1 ((insI_perm x r).subset hz) with rfl | hz
      · omega
      · exact h.1 z hz
theorem insS_sorted : ∀ l, (insS l).Pairwise (fun a b => a ≤ b)
  | [] => by simp [insS]
  | x :: r => insI_sorted x _ (insS_sorted r)
theorem sortI_ins (l : List Int) : sortI l = insS l := by
  have h1 : (sortI l).Pairwise (fun a b => decide (a ≤ b) = true) := List.pairwise_mergeSort (fun a b c h1 h2 => by simp only [decide_eq_true_eq] at *; omega) (fun a b => by simp only [Bool.or_eq_true, decide_eq_true_eq]; omega) l
  refine List.Perm.eq_of_pairwise (le := fun a b => a ≤ b) (fun a b _ _ h1 h2 => by omega) (h1.imp fun h => by simpa using h) (insS_sorted l) ?_
  exact (List.mergeSort_perm l _).trans (insS_perm l).symm
def sortedOf' (σ : Store) (l : List Int) : Option (V × Store) :=
  if l.length ≤ LIM then some (.one (.own σ.length 0 0 l.length), σ ++ [.cells 0 1 ((insS l).map cellI)]) else none
def sortedTo' (σ : Store) : Option C → Option (V × Store)
  | some (.f (.sl xs)) => (intRows xs).bind (sortedOf' σ)
  | _ => none
def extSorted' (fv : Nat) : List V → Store → Option (V × Store)
  | [.one (.fn g [] [.ptr id ver i o])], σ => if g = fv ∧ o = 0 then sortedTo' σ (σ.cell id ver i 0) else none
  | _, _ => none
theorem sortedOf_eq : sortedOf = sortedOf' := by funext σ l; simp only [sortedOf, sortedOf', sortI_ins]
theorem sortedTo_eq : sortedTo = sortedTo' := by
  funext σ c
  unfold sortedTo sortedTo'
  rw [sortedOf_eq]
  rfl
theorem extSorted_eq (fv : Nat) : extSorted fv = extSorted' fv := by
  funext a σ
  unfold extSorted extSorted'
  rw [sortedTo_eq]
  rfl
def T' (n : Nat) : Option Entry := if n = F.slices_Sorted_int then some (.ext (extSorted' F.slices_Values_int_int__1)) else T n
theorem T_eq : T = T' := by
  funext n
  unfold T'
  split
  · rename_i h
    subst h
    rw [← extSorted_eq]
    rfl
  · rfl
end AC

/- The split of PacksTwice's code: what is behind its first four pieces. -/
namespace AC
open Go Go.A
set_option maxRecDepth 1000000
def twRest : Go.A.Code := a_locksteplaw20_PacksTwice.body.p2.p2.p2.p2
abbrev twSt (n l k m : Int) : St := ⟨[.one (.f (.lit (.int .u8 n))), .one (.f (.lit (.int .u8 l))), vB false, vI k, vI m, vU, vU, vU, vU, vU, vU, vU, vU, vU, vB false, vU, vU, vU, vU, vU, vU], [], 0, 0⟩
theorem awake20_run : callW T' (execN T' 20000) F.locksteplaw20_awake [] [] = some (vbool true, []) := by kernel_rfl
theorem awake20 : call T F.locksteplaw20_awake [] [] = some (vbool true, []) := by
  refine callN_call T 20000 _ _ _ _ ?_
  rw [T_eq]
  exact awake20_run
end AC

/- PacksTwice's function: it is right, and its values' shapes are these. -/
namespace AC
open Go Go.A
set_option maxRecDepth 1000000
def twO (j : Nat) : POp := ⟨1, 8, 1, 2 + j, [1 + j, 1 + j], 0⟩
def twP (k : Nat) : PFunc := ⟨[8], 8, [⟨[], (List.range k).map twO, 0, 1 + k, []⟩]⟩
def twM (j : Nat) : Int × V := (2 + j, .agg [.f (ei 0), .f (ei j), .f (ei 8), .f (ei 1)])
def twS (j : Nat) : Int × V := (2 + j, .agg [.f (ei 8), .f (ei 1)])
def fnC (g : Nat) : List C := [.fn g [.ptr 2 0 0 0] []]
def shR (k : Nat) : V × Store := (.one (.map 6), [.cells 0 3 [cFunc (twP k)], .cells 0 3 [cFunc (twP k)],
  .cells 0 8 [cFunc (twP k) ++ [.f (ei 2), .f (.sl [[.sl []]]), .f (.sl [[.sl []]]), .f (.sl [[ei (-1)]]), .map 5]],
  .cells 0 1 [fnC F.check_checker_shape, fnC F.check_checker_typed, fnC F.check_checker_defined, fnC F.check_checker_shapes, fnC F.check_checker_places], .cells 0 1 [[.ptr 2 0 0 0]],
  .mp ((1, .agg [.f (ei (-1)), .f (ei 0), .f (ei 8), .f (ei 1)]) :: (List.range k).map twM), .mp ((1, .agg [.f (ei 8), .f (ei 1)]) :: (List.range k).map twS)])
def rtA (k : Nat) : List V := [vFunc (twP k), vI 0]
def shA (k : Nat) : List V := [vFunc (twP k)]
end AC

/- A table in which PacksTwice's function's checks are taken as they are known. -/
namespace AC
open Go Go.A
def T2 (k : Nat) (n : Nat) : Option Entry := if n = F.packs_right then some (.ext (extTab [(rtA k, (vbool true, []))])) else if n = F.check_Shapes then some (.ext (extTab [(shA k, shR k)])) else T' n
theorem T2_sub (k : Nat) (h1 : callW T' (execN T' 20000) F.packs_right (rtA k) [] = some (vbool true, [])) (h2 : callW T' (execN T' 20000) F.check_Shapes (shA k) [] = some (shR k)) (f : Nat) :
    T2 k f = T f ∨ ∃ g, T2 k f = some (.ext g) ∧ ∀ args σ, Le (g args σ) (call T f args σ) := by
  have e1 := callN_call T' 20000 _ _ _ _ h1
  have e2 := callN_call T' 20000 _ _ _ _ h2
  rw [← T_eq] at e1 e2
  unfold T2
  split
  · rename_i h
    subst h
    exact .inr ⟨_, rfl, extTab_le fun e he => by
      simp only [List.mem_cons, List.not_mem_nil, or_false] at he
      subst he
      exact e1⟩
  · split
    · rename_i h
      subst h
      exact .inr ⟨_, rfl, extTab_le fun e he => by
        simp only [List.mem_cons, List.not_mem_nil, or_false] at he
        subst he
        exact e2⟩
    · rw [T_eq]
      exact .inl rfl
end AC
