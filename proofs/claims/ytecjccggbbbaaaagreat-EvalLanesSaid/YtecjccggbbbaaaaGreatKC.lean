/- The packs laws, asked of the kernel, over a table whose sort is structural, which is the same table. -/
import Derived.Test.YtecjccggbbbaaaaGreatTable
import Derived.Test.YtecjccggbbbaaaaGreatSortC
import Derived.KernelRfl
import Derived.Test.YtecjccggbbbaaaaGreatData
import Derived.Test.YtecjccggbbbaaaaGreatKern
import Derived.Test.YtecjccggbbbaaaaGreatKB
set_option linter.unusedVariables false
set_option linter.unusedSimpArgs false
namespace AC
open Go Go.A
def insI (x : Int) : List Int → List Int
  | [] => [x]
  | y :: r => if x ≤ y then x :: y :: r else y :: insI x r
def insS : List Int → List Int
  | [] => []
  | x :: r => insI x (insS r)
theorem insI_perm (x : Int) : ∀ l, (insI x l).Perm (x :: l)
  | [] => .refl _
  | y :: r => by
    rw [insI]
    split
    · exact .refl _
    · exact ((insI_perm x r).cons y).trans (.swap x y r)
theorem insS_perm : ∀ l, (insS l).Perm l
  | [] => .refl _
  | x :: r => (insI_perm x (insS r)).trans ((insS_perm r).cons x)
theorem insI_sorted (x : Int) : ∀ l, l.Pairwise (fun a b => a ≤ b) → (insI x l).Pairwise (fun a b => a ≤ b)
  | [], _ => by simp [insI]
  | y :: r, h => by
    rw [List.pairwise_cons] at h
    rw [insI]
    split
    · rename_i c
      rw [List.pairwise_cons]
      refine ⟨fun z hz => ?_, List.pairwise_cons.2 h⟩
      rcases List.mem_cons.1 hz with rfl | hz
      · exact c
      · exact Int.le_trans c (h.1 z hz)
    · rename_i c
      rw [List.pairwise_cons]
      refine ⟨fun z hz => ?_, insI_sorted x r h.2⟩
      rcases List.mem_cons.1 ((insI_perm x r).subset hz) with rfl | hz
      · omega
      · exact h.1 z hz
theorem insS_sorted : ∀ l, (insS l).Pairwise (fun a b => a ≤ b)
  | [] => by simp [insS]
  | x :: r => insI_sorted x _ (insS_sorted r)
theorem sortI_ins (l : List Int) : sortI l = insS l := by
  have h1 : (sortI l).Pairwise (fun a b => decide (a ≤ b) = true) := List.pairwise_mergeSort (fun a b c h1 h2 => by simp only [decide_eq_true_eq] at *; omega) (fun a b => by simp only [Bool.or_eq_true, decide_eq_true_eq]; omega) l
  refine List.Perm.eq_of_pairwise (le := fun a b => a ≤ b) (fun a b _ _ h1 h2 => by omega) (h1.imp fun h => by simpa using h) (insS_sorted l) ?_
  exact (List.mergeSort_perm l _).trans (insS_perm l).symm
def sortedOf' (σ : Store) (l : List Int) : Option (V × Store) :=
  if l.length ≤ LIM then some (.one (.own σ.length 0 0 l.length), σ ++ [.cells 0 1 ((insS l).map cellI)]) else none
def sortedTo' (σ : Store) : Option C → Option (V × Store)
  | some (.f (.sl xs)) => (intRows xs).bind (sortedOf' σ)
  | _ => none
def extSorted' (fv : Nat) : List V → Store → Option (V × Store)
  | [.one (.fn g [] [.ptr id ver i o])], σ => if g = fv ∧ o = 0 then sortedTo' σ (σ.cell id ver i 0) else none
  | _, _ => none
theorem sortedOf_eq : sortedOf = sortedOf' := by funext σ l; simp only [sortedOf, sortedOf', sortI_ins]
theorem sortedTo_eq : sortedTo = sortedTo' := by
  funext σ c
  unfold sortedTo sortedTo'
  rw [sortedOf_eq]
  rfl
theorem extSorted_eq (fv : Nat) : extSorted fv = extSorted' fv := by
  funext a σ
  unfold extSorted extSorted'
  rw [sortedTo_eq]
  rfl
def T' (n : Nat) : Option Entry := if n = F.slices_Sorted_int then some (.ext (extSorted' F.slices_Values_int_int__1)) else T n
theorem T_eq : T = T' := by
  funext n
  unfold T'
  split
  · rename_i h
    subst h
    rw [← extSorted_eq]
    rfl
  · rfl
end AC

/- EvalLanes' code in pieces; a table in which word's one is taken by its contract. -/
namespace AC
open Go Go.A Go.A.Lex
set_option maxRecDepth 1000000
theorem cut_any (w : Int) (h32 : w = 8 ∨ w = 16 ∨ w = 32) (v : Int) : call T F.word_Cut [vU64 v, vI w] [] = some (vU64 (cutW v w), []) := by
  rw [call_eq (fn := a_word_Cut) rfl]
  have w8 : Go.IntKind.i64.wrap (64 - 8) = 56 := by decide
  have w16 : Go.IntKind.i64.wrap (64 - 16) = 48 := by decide
  have w32 : Go.IntKind.i64.wrap (64 - 32) = 32 := by decide
  have hb : Go.IntKind.u64.bits = 64 := rfl
  have hm : mayW w = true := by rcases h32 with rfl | rfl | rfl <;> rfl
  rcases h32 with rfl | rfl | rfl
  all_goals
    simp -implicitDefEqProofs only [Int.reduceSub] at w8 w16 w32
    simp -implicitDefEqProofs only [go_sem, a_word_Cut, cutW, hm, w8, w16, w32, hb, wrap_u64', Option.some.injEq, Prod.mk.injEq, V.one.injEq, C.f.injEq, Fz.lit.injEq, Value.int.injEq]
    simp
    try (rw [Int.fdiv_eq_ediv_of_nonneg _ (by omega)]; omega)
theorem Do_any (w : Int) (h32 : w = 8 ∨ w = 16 ∨ w = 32) (a b : Int) (k : Int) (hk : 1 ≤ k ∧ k ≤ 12) : call T F.word_Do [vI k, vI w, vU64 a, vU64 b] [] = some (vDo (doS k w a b), []) := by
  rw [call_eq (fn := a_word_Do) rfl]
  have hw : mayW w = true := by rcases h32 with rfl | rfl | rfl <;> rfl
  have hT : call T F.word_Two [vI k, vI w] [] = some (vB true, []) := by
    rw [call_eq (fn := a_word_Two) rfl]
    simp -implicitDefEqProofs only [go_sem, a_word_Two, eq_true hk.1, eq_true hk.2, hw]
  have c1 := cut_any w h32 a
  have c2 := cut_any w h32 b
  obtain ⟨q1, q2⟩ := cutW_lt (v := a) hw
  obtain ⟨q3, q4⟩ := cutW_lt (v := b) hw
  have hp : (2 : Int) ^ w.toNat < 18446744073709551616 := by rcases h32 with rfl | rfl | rfl <;> decide
  have r1 := q1
  have r2 : cutW a w < 18446744073709551616 := by omega
  have r3 := q3
  have r4 : cutW b w < 18446744073709551616 := by omega
  have hW := ways_call w
  obtain ⟨z1, z2⟩ := rawS_range (k := k) (w := w) r1 r3 r2
  have hC := cut_any w h32 (rawS k w (cutW a w) (cutW b w))
  obtain ⟨n, hn⟩ : ∃ n : Nat, k = n := ⟨k.toNat, by omega⟩
  simp -implicitDefEqProofs only [go_sem] at hT c1 c2 hW
  by_cases d : k = 4 ∧ cutW b w = 0
  · rw [doS, if_pos d]
    obtain ⟨rfl, d2⟩ := d
    simp -implicitDefEqProofs only [go_sem, a_word_Do, vDo, hT, c1, c2, d2]
  · rw [doS, if_neg d]
    have hk' : k = 1 ∨ k = 2 ∨ k = 3 ∨ k = 4 ∨ k = 5 ∨ k = 6 ∨ k = 7 ∨ k = 8 ∨ k = 9 ∨ k = 10 ∨ k = 11 ∨ k = 12 := by omega
    rcases hk' with rfl | rfl | rfl | rfl | rfl | rfl | rfl | rfl | rfl | rfl | rfl | rfl
    · have hg := ways1_call (sW w) (cutW a w) (cutW b w)
      simp -implicitDefEqProofs only [go_sem, rawS] at hg hC ⊢
      simp -implicitDefEqProofs only [go_sem, a_word_Do, vDo, hT, c1, c2, hW, hg, hC, n13]
    · have hg := ways2_call (sW w) (cutW a w) (cutW b w)
      simp -implicitDefEqProofs only [go_sem, rawS] at hg hC ⊢
      simp -implicitDefEqProofs only [go_sem, a_word_Do, vDo, hT, c1, c2, hW, hg, hC, n13]
    · have hg := ways3_call (sW w) (cutW a w) (cutW b w)
      simp -implicitDefEqProofs only [go_sem, rawS] at hg hC ⊢
      simp -implicitDefEqProofs only [go_sem, a_word_Do, vDo, hT, c1, c2, hW, hg, hC, n13]
    · have d2 : ¬ cutW b w = 0 := fun h => d ⟨rfl, h⟩
      have hg := ways4_call (sW w) (cutW a w) (cutW b w) d2
      simp -implicitDefEqProofs only [go_sem, rawS] at hg hC ⊢
      simp -implicitDefEqProofs only [go_sem, a_word_Do, vDo, hT, c1, c2, hW, hg, hC, d2, n13]
    · have hg := ways5_call (sW w) (cutW a w) (cutW b w)
      simp -implicitDefEqProofs only [go_sem, rawS] at hg hC ⊢
      simp -implicitDefEqProofs only [go_sem, a_word_Do, vDo, hT, c1, c2, hW, hg, hC, n13]
    · have hg := ways6_call (sW w) (cutW a w) (cutW b w)
      simp -implicitDefEqProofs only [go_sem, rawS] at hg hC ⊢
      simp -implicitDefEqProofs only [go_sem, a_word_Do, vDo, hT, c1, c2, hW, hg, hC, n13]
    · have hg := ways7_call (sW w) (cutW a w) (cutW b w)
      simp -implicitDefEqProofs only [go_sem, rawS] at hg hC ⊢
      simp -implicitDefEqProofs only [go_sem, a_word_Do, vDo, hT, c1, c2, hW, hg, hC, n13]
    · have hg := ways8_call w hw (cutW a w) (cutW b w) r1 r2 r3 r4
      simp -implicitDefEqProofs only [go_sem, rawS] at hg hC ⊢
      simp -implicitDefEqProofs only [go_sem, a_word_Do, vDo, hT, c1, c2, hW, hg, hC, n13]
    · have hg := ways9_call w hw (cutW a w) (cutW b w) r1 r2 r3 r4
      simp -implicitDefEqProofs only [go_sem, rawS] at hg hC ⊢
      simp -implicitDefEqProofs only [go_sem, a_word_Do, vDo, hT, c1, c2, hW, hg, hC, n13]
    · have hg := ways10_call (sW w) (cutW a w) (cutW b w)
      simp -implicitDefEqProofs only [go_sem, rawS] at hg hC ⊢
      simp -implicitDefEqProofs only [go_sem, a_word_Do, vDo, hT, c1, c2, hW, hg, hC, n13]
    · have hg := ways11_call (sW w) (cutW a w) (cutW b w)
      simp -implicitDefEqProofs only [go_sem, rawS] at hg hC ⊢
      simp -implicitDefEqProofs only [go_sem, a_word_Do, vDo, hT, c1, c2, hW, hg, hC, n13]
    · have hg := ways12_call w hw (cutW a w) (cutW b w) q1 q2 q3 q4
      simp -implicitDefEqProofs only [go_sem, rawS] at hg hC ⊢
      simp -implicitDefEqProofs only [go_sem, a_word_Do, vDo, hT, c1, c2, hW, hg, hC, n13]

def doV (k w a b : Int) : Int := cutW (rawS k w (cutW a w) (cutW b w)) w
def extDo : List V → Store → Option (V × Store)
  | [.one (.f (.lit (.int .i64 k))), .one (.f (.lit (.int .i64 w))), .one (.f (.lit (.int .u64 a))), .one (.f (.lit (.int .u64 b)))], [] =>
    if decide (1 ≤ k) && (decide (k ≤ 12) && (!decide (k = 4) && (decide (w = 8) || (decide (w = 16) || decide (w = 32))))) then some (.tup [vU64 (doV k w a b), vI 0], []) else none
  | _, _ => none
def T2 (n : Nat) : Option Entry := if n = F.word_Do then some (.ext extDo) else T' n
theorem do_le : ∀ args σ, Le (extDo args σ) (call T F.word_Do args σ) := by
  intro args σ r h
  unfold extDo at h
  split at h
  · rename_i k w a b
    split at h
    · rename_i c
      injection h with h
      subst h
      simp only [Bool.and_eq_true, Bool.or_eq_true, Bool.not_eq_true', decide_eq_true_eq, decide_eq_false_iff_not] at c
      obtain ⟨c1, c2, c3, c4⟩ := c
      have := Do_any w c4 a b k ⟨c1, c2⟩
      rw [doS, if_neg (fun h => c3 h.1)] at this
      exact this
    · cases h
  · cases h
theorem T2_sub (f : Nat) : T2 f = T f ∨ ∃ g, T2 f = some (.ext g) ∧ ∀ args σ, Le (g args σ) (call T f args σ) := by
  unfold T2
  split
  · rename_i h
    subst h
    exact .inr ⟨_, rfl, do_le⟩
  · rw [T_eq]
    exact .inl rfl
def lp (n : Nat) : Go.A.Code := match n with
  | 0 => a_locksteplaw13_EvalLanes.body
  | n + 1 => (lp n).p2
def lanesA : Go.A.Code := .seq (lp 8).p1 (.seq (lp 9).p1 (.seq (lp 10).p1 (.seq (lp 11).p1 (.seq (lp 12).p1 (.seq (lp 13).p1 (.seq (lp 14).p1 (lp 15).p1))))))
def lanesZ : Go.A.Code := lp 16
theorem lanes_body : a_locksteplaw13_EvalLanes.body = .seq (lp 0).p1 (.seq (lp 1).p1 (.seq (lp 2).p1 (.seq (lp 3).p1 (.seq (lp 4).p1 (.seq (lp 5).p1 (.seq (lp 6).p1 (.seq (lp 7).p1 (.seq (lp 8).p1 (.seq (lp 9).p1 (.seq (lp 10).p1 (.seq (lp 11).p1 (.seq (lp 12).p1 (.seq (lp 13).p1 (.seq (lp 14).p1 (.seq (lp 15).p1 lanesZ))))))))))))))) := rfl
abbrev u8C (n : Int) : C := .f (.lit (.int .u8 n))
abbrev u64C (n : Int) : C := .f (.lit (.int .u64 n))
structure Vals where
  (a b c d e f g h : Int)
def Vals.cs (v : Vals) : List C := [u64C v.a, u64C v.b, u64C v.c, u64C v.d, u64C v.e, u64C v.f, u64C v.g, u64C v.h]
def Vals.fs (v : Vals) : List Fz := [eu v.a, eu v.b, eu v.c, eu v.d, eu v.e, eu v.f, eu v.g, eu v.h]
/-- The state behind the first eight pieces. -/
abbrev lanesSt (n s0 s1 : Int) (v : Vals) (k w i : Int) : St := ⟨[.one (u8C n), .agg [u8C s0, u8C s1], .agg v.cs, .one (.fp [.lit (.int .u8 s0), .lit (.int .u8 s1)] 0), .one (.fp v.fs 0), vB false, .one (u8C s0), .one (u8C s1), vI k, vI w, .one (.ptr 0 0 0 0), vI i, vU, vU, vU, vU, vU, vU, vU, vB false, vU],
  [.cells 0 3 [[.f (.sl [[ei w], [ei w], [ei w], [ei w], [ei w], [ei w], [ei w], [ei w]]), .f (ei w), .f (.sl [])]]], 0, 0⟩
def finV : C → C → Option (Int × Int)
  | .f (.lit (.int .u64 v)), .f (.lit (.int .u64 v')) => some (v, v')
  | _, _ => none
def isI (x : Int) : C → Bool
  | .f (.lit (.int .i64 y)) => decide (y = x)
  | _ => false
def finO (e h : C) : Option Ob → Option Ob → Option (Int × Int)
  | some (.cells 0 3 [[c, v, n]]), some (.cells 0 3 [[c', v', _]]) => if isI 0 e && (isI 0 h && (isI 0 c && (isI 0 c' && isI 5 n))) then finV v v' else none
  | _, _ => none
def finE (st : Store) : List V → Option (Int × Int)
  | [_, _, _, _, _, _, _, _, _, _, _, _, _, _, _, .one (.ptr x 0 0 0), .one e, .one (.ptr y 0 0 0), .one h, _, _] => finO e h st[x]? st[y]?
  | _ => none
/-- What both runs come to, if all else is as it should be. -/
def finL : Ex × St → Option (Int × Int)
  | (.normal, ⟨env, st, 0, 0⟩) => finE st env
  | _ => none
def lanesR (n s0 s1 : Int) (v : Vals) (k w i : Int) : Option (Int × Int) := (execN T2 20000 lanesA (lanesSt n s0 s1 v k w i)).bind finL
def lval (r : Option (Int × Int)) : Int := match r with
  | some p => p.2
  | none => 0
end AC

/- The first question of the eval laws, answered by the kernel. -/
namespace AC
open Go Go.A
set_option maxRecDepth 100000
theorem awake13_run : callW T (execN T 20000) F.locksteplaw13_awake [] [] = some (vbool true, []) := by kernel_rfl
theorem awake13 : call T F.locksteplaw13_awake [] [] = some (vbool true, []) := callN_call T 20000 _ _ _ _ awake13_run
end AC

namespace AC
open Go Go.A Go.A.Lex
theorem isI_eq {x : Int} {c : C} (h : isI x c = true) : c = .f (.lit (.int .i64 x)) := by
  unfold isI at h
  split at h
  · rw [of_decide_eq_true h]
  · cases h
theorem lanes_fin {r : Ex × St} {t : Int} (h : finL r = some (t, t)) : (seqK (exec T lanesZ) r).bind (leave false [(5, none)]) = some (vbool true, []) := by
  unfold finL at h
  split at h
  · rename_i env st
    unfold finE at h
    split at h
    · rename_i a0 a1 a2 a3 a4 a5 a6 a7 a8 a9 a10 a11 a12 a13 a14 x e y hh a19 a20
      unfold finO at h
      split at h
      · rename_i c v n c' v' n' hx hy
        split at h
        · rename_i hc
          simp only [Bool.and_eq_true] at hc
          obtain ⟨h1, h2, h3, h4, h5⟩ := hc
          have h1 := isI_eq h1
          have h2 := isI_eq h2
          have h3 := isI_eq h3
          have h4 := isI_eq h4
          have h5 := isI_eq h5
          subst h1 h2 h3 h4 h5
          unfold finV at h
          split at h
          · rename_i p q
            injection h with h
            simp only [Prod.mk.injEq] at h
            obtain ⟨rfl, rfl⟩ := h
            have hl : (st.length ≤ 0) = False := by
              have := (List.getElem?_eq_some_iff.1 hx).1
              simp
              intro h0
              simp [h0] at this
            simp -implicitDefEqProofs only [go_sem, lanesZ, lp, a_locksteplaw13_EvalLanes, Code.p1, Code.p2, hx, hy, beq_self_eq_true, hl]
          · cases h
        · cases h
      · cases h
    · cases h
  · cases h
/-- The pieces behind the first eight, for whatever is kept of what was given. -/
def LnOk (k w i : Int) : Prop := ∀ (n s0 s1 : Int) (v : Vals), ∃ r t, exec T lanesA (lanesSt n s0 s1 v k w i) = some r ∧ finL r = some (t, t)
theorem lnOk_of {k w i : Int} (h : ∀ (n s0 s1 : Int) (v : Vals), lanesR n s0 s1 v k w i = some (lval (lanesR n s0 s1 v k w i), lval (lanesR n s0 s1 v k w i))) : LnOk k w i := fun n s0 s1 v => by
  have h1 := h n s0 s1 v
  generalize lval (lanesR n s0 s1 v k w i) = t at h1
  unfold lanesR at h1
  rw [Option.bind_eq_some_iff] at h1
  obtain ⟨r, h2, h3⟩ := h1
  exact ⟨r, t, execN_sub T2_sub _ _ _ _ h2, h3⟩
theorem seq_assoc (a b c : Go.A.Code) (s : St) : exec T (.seq a (.seq b c)) s = exec T (.seq (.seq a b) c) s := by
  simp only [exec_seq, Option.bind_assoc]
  congr 1
  funext x
  obtain ⟨e, s⟩ := x
  cases e <;> simp [seqK, exec_seq]
theorem lanes_split (s : St) : exec T (.seq (lp 8).p1 (.seq (lp 9).p1 (.seq (lp 10).p1 (.seq (lp 11).p1 (.seq (lp 12).p1 (.seq (lp 13).p1 (.seq (lp 14).p1 (.seq (lp 15).p1 lanesZ)))))))) s = exec T (.seq lanesA lanesZ) s := by
  have key : ∀ (a b : Go.A.Code), (∀ s, exec T a s = exec T b s) → ∀ x s, exec T (.seq x a) s = exec T (.seq x b) s := fun a b h x s => by
    simp only [exec_seq]
    congr 1
    funext y
    obtain ⟨e, s⟩ := y
    cases e <;> simp [seqK, h]
  unfold lanesA
  have st : ∀ (x a b : Go.A.Code), (∀ s, exec T a s = exec T (.seq b lanesZ) s) → ∀ s, exec T (.seq x a) s = exec T (.seq (.seq x b) lanesZ) s := fun x a b h s => by
    rw [key _ _ h x s, seq_assoc]
  refine st _ _ _ (fun s => st _ _ _ (fun s => st _ _ _ (fun s => st _ _ _ (fun s => st _ _ _ (fun s => st _ _ _ (fun s => st _ _ _ (fun s => rfl) s) s) s) s) s) s) s
end AC

namespace AC
open Go Go.A Go.A.Lex
set_option maxRecDepth 10000 in
set_option maxHeartbeats 1000000 in
theorem Lanes_of (hk : ∀ k ∈ [1, 2, 3, 5, 6, 7, 8, 9], ∀ w ∈ [8, 16, 32], ∀ i : Int, 0 ≤ i ∧ i < 4 → LnOk k w i) (n s0 s1 : Int) (v : Vals) (hn : 0 ≤ n ∧ n < 256) (h0 : 0 ≤ s0 ∧ s0 < 256) (h1 : 0 ≤ s1 ∧ s1 < 256) :
    call T F.locksteplaw13_EvalLanes [.one (u8C n), .agg [u8C s0, u8C s1], .agg v.cs] [] = some (vB true, []) := by
  rw [call_eq (fn := a_locksteplaw13_EvalLanes) rfl]
  have hA := awake13
  have n2 : ((2 : Nat) : Int) = 2 := rfl
  have w0 : IntKind.i64.wrap n = n := by rw [wrap_i64] <;> omega
  have w1 : IntKind.i64.wrap s0 = s0 := by rw [wrap_i64] <;> omega
  have w2 : IntKind.i64.wrap s1 = s1 := by rw [wrap_i64] <;> omega
  have m0 : n.tmod 8 = n % 8 := Int.tmod_eq_emod_of_nonneg hn.1
  have m1 : s0.tmod 3 = s0 % 3 := Int.tmod_eq_emod_of_nonneg h0.1
  have m2 : s1.tmod 4 = s1 % 4 := Int.tmod_eq_emod_of_nonneg h1.1
  have p0 : 0 ≤ n % 8 := by omega
  have p1 : 0 ≤ s0 % 3 := by omega
  obtain ⟨k, hkm, hkg⟩ : ∃ k ∈ [(1 : Int), 2, 3, 5, 6, 7, 8, 9], ([[ei 1], [ei 2], [ei 3], [ei 5], [ei 6], [ei 7], [ei 8], [ei 9]] : List (List Fz))[(n % 8).toNat]? = some [ei k] := by
    have : n % 8 = 0 ∨ n % 8 = 1 ∨ n % 8 = 2 ∨ n % 8 = 3 ∨ n % 8 = 4 ∨ n % 8 = 5 ∨ n % 8 = 6 ∨ n % 8 = 7 := by omega
    rcases this with c | c | c | c | c | c | c | c <;> rw [c] <;> exact ⟨_, by simp, rfl⟩
  obtain ⟨w, hwm, hwg⟩ : ∃ w ∈ [(8 : Int), 16, 32], ([[ei 8], [ei 16], [ei 32]] : List (List Fz))[(s0 % 3).toNat]? = some [ei w] := by
    have : s0 % 3 = 0 ∨ s0 % 3 = 1 ∨ s0 % 3 = 2 := by omega
    rcases this with c | c | c <;> rw [c] <;> exact ⟨_, by simp, rfl⟩
  obtain ⟨r, t, g1, g2⟩ := hk k hkm w hwm (s1 % 4) (by omega) n s0 s1 v
  have g3 := lanes_fin g2
  have e : [A.V.one (u8C n), A.V.agg [u8C s0, u8C s1], A.V.agg v.cs].length = a_locksteplaw13_EvalLanes.np := rfl
  rw [if_pos e, show a_locksteplaw13_EvalLanes.raw = false from rfl, show a_locksteplaw13_EvalLanes.results = [(5, none)] from rfl, lanes_body]
  have g4 := lanes_split (lanesSt n s0 s1 v k w (s1 % 4))
  rw [exec_seq (a := lanesA), g1, Option.bind_some] at g4
  unfold lanesSt at g4
  generalize (Code.seq (lp 8).p1 (.seq (lp 9).p1 (.seq (lp 10).p1 (.seq (lp 11).p1 (.seq (lp 12).p1 (.seq (lp 13).p1 (.seq (lp 14).p1 (.seq (lp 15).p1 lanesZ)))))))) = X at g4 ⊢
  simp -implicitDefEqProofs only [go_sem, Vals.cs, Vals.fs] at g4
  simp -implicitDefEqProofs only [go_sem, lp, a_locksteplaw13_EvalLanes, Code.p1, Code.p2, Vals.cs, Vals.fs, hA, n2, w0, w1, w2, m0, m1, m2, hkg, hwg, p0, p1, g4]
  exact g3
end AC
