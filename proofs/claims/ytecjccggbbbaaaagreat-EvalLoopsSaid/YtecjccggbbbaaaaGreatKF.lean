import Derived.Test.YtecjccggbbbaaaaGreatKE
set_option linter.unusedVariables false
set_option linter.unusedSimpArgs false
set_option linter.unusedSectionVars false
namespace AC
open Go Go.A Go.A.Lex
/-! slices.Repeat of one number. -/
def isM2 : List C → Bool
  | [.f (.lit (.int .i64 k))] => decide (k = -2)
  | _ => false
def repChk (n : Nat) : Bool := match callW T (execN T 3000) F.slices_Repeat_int [vL [[ei (-2)]], vI n] [] with
  | some (.one (.own 0 0 0 m), [.cells 0 1 rows]) => decide (m = n) && (decide (rows.length = n) && rows.all isM2)
  | _ => false
set_option maxRecDepth 100000 in
theorem rep_all : ((List.range 64).all fun n => repChk (n + 1)) = true := by kernel_rfl
theorem isM2_eq {r : List C} (h : isM2 r = true) : r = cellI (-2) := by
  unfold isM2 at h
  split at h
  · simp only [decide_eq_true_eq] at h
    subst h
    rfl
  · cases h
theorem Repeat_call (n : Nat) (h1 : 1 ≤ n) (hn : n ≤ 64) : call T F.slices_Repeat_int [vL [[ei (-2)]], vI n] [] = some (.one (.own 0 0 0 n), [.cells 0 1 ((List.replicate n (-2 : Int)).map cellI)]) := by
  have h := List.all_eq_true.1 rep_all (n - 1) (List.mem_range.2 (by omega))
  rw [show n - 1 + 1 = n by omega] at h
  unfold repChk at h
  split at h
  · rename_i m rows he
    simp only [Bool.and_eq_true, decide_eq_true_eq, List.all_eq_true] at h
    obtain ⟨rfl, h2, h3⟩ := h
    have : rows = (List.replicate m (-2 : Int)).map cellI := by
      rw [List.map_replicate]
      exact List.eq_replicate_iff.2 ⟨h2, fun r hr => isM2_eq (h3 r hr)⟩
    rw [← this]
    exact callN_of he
  · cases h
/-! The first place to which one comes from both, by places in the order. -/
def inR (n : Nat) (a : Int) : Bool := decide (0 ≤ a) && decide (a < n)
def climb (t at' : List Int) : Nat → Int → Int → Option Int
  | 0, _, _ => none
  | r + 1, a, b => if inR t.length a && (inR at'.length a && inR at'.length b) then (if tr at' b < tr at' a then climb t at' r (tr t a) b else some a) else none
def meetR (t at' : List Int) (K : Nat) : Nat → Int → Int → Option Int
  | 0, _, _ => none
  | r + 1, a, b => if a = b then some a else match climb t at' K a b with
    | none => none
    | some a' => match climb t at' K b a' with
      | none => none
      | some b' => meetR t at' K r a' b'
theorem inR_and {n : Nat} {a : Int} (h : inR n a = true) : 0 ≤ a ∧ a < (n : Int) ∧ ¬ a < 0 ∧ ¬ (n : Int) ≤ a := by
  simp only [inR, Bool.and_eq_true, decide_eq_true_eq] at h
  omega
section
variable (t at' : List Int)
theorem climb_l0 : ∀ (r : Nat) (a b c : Int) (a4 a5 a6 a7 : V), climb t at' r a b = some c →
    exec T dom_meet_l0 ⟨[vIs t, vIs at', vI a, vI b, a4, a5, a6, a7], [], 0, 0⟩ = some (.exit 2, ⟨[vIs t, vIs at', vI c, vI b, vU, vU, vU, vU], [], 0, 0⟩) := by
  intro r
  induction r with
  | zero => intro a b c _ _ _ _ h; simp [climb] at h
  | succ r ih =>
    intro a b c a4 a5 a6 a7 h
    rw [climb] at h
    split at h
    · rename_i hr
      simp only [Bool.and_eq_true] at hr
      obtain ⟨h1, h2, h3⟩ := hr
      obtain ⟨p1, p2, p3, p4⟩ := inR_and h1
      obtain ⟨q1, q2, q3, q4⟩ := inR_and h2
      obtain ⟨s1, s2, s3, s4⟩ := inR_and h3
      rw [dom_meet_l0_eq, dom_meet_b0]
      split at h
      · rename_i hc
        have := ih _ b c vU vU vU vU h
        simp -implicitDefEqProofs only [go_sem] at this
        simp -implicitDefEqProofs only [go_sem, p1, q1, s1, getT p3 p4, getT q3 q4, getT s3 s4, hc, this]
      · rename_i hc
        injection h with h
        subst h
        simp -implicitDefEqProofs only [go_sem, p1, q1, s1, getT p3 p4, getT q3 q4, getT s3 s4, hc]
    · cases h
theorem climb_l1 : ∀ (r : Nat) (a b c : Int) (a4 a5 a6 a7 : V), climb t at' r b a = some c →
    exec T dom_meet_l1 ⟨[vIs t, vIs at', vI a, vI b, a4, a5, a6, a7], [], 0, 0⟩ = some (.exit 4, ⟨[vIs t, vIs at', vI a, vI c, vU, vU, vU, vU], [], 0, 0⟩) := by
  intro r
  induction r with
  | zero => intro a b c _ _ _ _ h; simp [climb] at h
  | succ r ih =>
    intro a b c a4 a5 a6 a7 h
    rw [climb] at h
    split at h
    · rename_i hr
      simp only [Bool.and_eq_true] at hr
      obtain ⟨h1, h2, h3⟩ := hr
      obtain ⟨p1, p2, p3, p4⟩ := inR_and h1
      obtain ⟨q1, q2, q3, q4⟩ := inR_and h2
      obtain ⟨s1, s2, s3, s4⟩ := inR_and h3
      rw [dom_meet_l1_eq, dom_meet_b1]
      split at h
      · rename_i hc
        have := ih a _ c vU vU vU vU h
        simp -implicitDefEqProofs only [go_sem] at this
        simp -implicitDefEqProofs only [go_sem, p1, q1, s1, getT p3 p4, getT q3 q4, getT s3 s4, hc, this]
      · rename_i hc
        injection h with h
        subst h
        simp -implicitDefEqProofs only [go_sem, p1, q1, s1, getT p3 p4, getT q3 q4, getT s3 s4, hc]
    · cases h
theorem meet_l2 (K : Nat) : ∀ (r : Nat) (a b c : Int) (a4 a5 a6 a7 : V), meetR t at' K r a b = some c →
    exec T dom_meet_l2 ⟨[vIs t, vIs at', vI a, vI b, a4, a5, a6, a7], [], 0, 0⟩ = some (.exit 0, ⟨[vU, vU, vI c, vU, vU, vU, vU, vU], [], 0, 0⟩) := by
  intro r
  induction r with
  | zero => intro a b c _ _ _ _ h; simp [meetR] at h
  | succ r ih =>
    intro a b c a4 a5 a6 a7 h
    rw [meetR] at h
    rw [dom_meet_l2_eq, dom_meet_b2]
    split at h
    · rename_i hc
      injection h with h
      subst h
      subst hc
      simp -implicitDefEqProofs only [go_sem]
    · rename_i hc
      split at h
      · cases h
      · rename_i a' h1
        split at h
        · cases h
        · rename_i b' h2
          have e1 := fun a4 a5 a6 a7 => climb_l0 t at' K a b a' a4 a5 a6 a7 h1
          have e2 := fun a4 a5 a6 a7 => climb_l1 t at' K a' b b' a4 a5 a6 a7 h2
          have := ih a' b' c vU vU vU vU h
          simp -implicitDefEqProofs only [go_sem] at e1 e2 this
          simp -implicitDefEqProofs only [go_sem, hc, e1, e2, this]
theorem meet_call (K r : Nat) (a b c : Int) (h : meetR t at' K r a b = some c) : call T F.dom_meet [vIs t, vIs at', vI a, vI b] [] = some (vI c, []) := by
  rw [call_eq (fn := a_dom_meet) rfl]
  have := fun a4 a5 a6 a7 => meet_l2 t at' K r a b c a4 a5 a6 a7 h
  simp -implicitDefEqProofs only [go_sem] at this
  simp -implicitDefEqProofs only [go_sem, a_dom_meet, this]
end
end AC

namespace AC
open Go Go.A Go.A.Lex
def bestOf (t at' : List Int) (K : Nat) : List Int → Int → Option Int
  | [], b => some b
  | p :: r, b => if inR t.length p = true then (if tr t p = -2 then bestOf t at' K r b else if b = -2 then bestOf t at' K r p else match meetR t at' K K b p with
    | none => none
    | some c => bestOf t at' K r c) else none
def passT (pred : List (List Int)) (t at' : List Int) (K : Nat) : List Int → Option (Option (Int × Int))
  | [] => some none
  | x :: r => if inR t.length x = true then (match bestOf t at' K (pred.getD x.toNat []) (-2) with
    | none => none
    | some b => if tr t x = b then passT pred t at' K r else some (some (x, b))) else none
def treeRun (pred : List (List Int)) (at' : List Int) (K : Nat) (tail : List Int) : Nat → List Int → Option (List Int)
  | 0, _ => none
  | r + 1, t => match passT pred t at' K tail with
    | none => none
    | some none => some t
    | some (some (x, b)) => treeRun pred at' K tail r (t.set x.toNat b)
theorem cellT {t : List Int} {a : Int} (h0 : ¬ a < 0) (h1 : ¬ (t.length : Int) ≤ a) : (t.map cellI)[a.toNat]? = some [.f (.lit (.int .i64 (tr t a)))] := by
  have : a.toNat < t.length := by omega
  simp [tr, this, cellI]
section
variable (succ pred : List (List Int)) (hpl : pred.length = succ.length) (hps : ∀ l ∈ pred, l.length ≤ 4294967296) (n : Nat) (hn : n = succ.length) (hn64 : n ≤ 64) (root : Int) (order tail at' : List Int) (hat : at'.length = n) (htl : tail.length ≤ 4294967296)
abbrev stT (succ pred : List (List Int)) (t at' : List Int) : Store := [obG succ pred, .cells 0 1 (t.map cellI), .cells 0 1 (at'.map cellI)]
include hpl hps hn hn64 hat htl
theorem tree_l2 (K : Nat) (t : List Int) (ht : t.length = n) (x : Int) (kx : Int) (ps : List Int) (hps0 : ps.length ≤ 4294967296) : ∀ (d k : Nat) (b c : Int) (a0 a3 a5 a8 a9 a12 a13 a14 a15 a16 a17 a21 a25 a26 a27 a28 : V), ps.length - k = d → k ≤ ps.length → bestOf t at' K (ps.drop k) b = some c →
    exec T dom_Tree_l2 ⟨[a0, vI root, .one (.ptr 0 0 0 0), a3, vIs order, a5, .one (.own 1 0 0 n), .one (.own 2 0 0 n), a8, a9, vI x, vI b, a12, a13, a14, a15, a16, a17, vIs tail, vI tail.length, vI kx, a21, vIs ps, vI ps.length, vI k, a25, a26, a27, a28], stT succ pred t at', 0, 0⟩ =
      some (.exit 4, ⟨[vU, vI root, .one (.ptr 0 0 0 0), vU, vIs order, vU, .one (.own 1 0 0 n), .one (.own 2 0 0 n), vU, vU, vI x, vI c, vU, vU, vU, vU, vU, vU, vIs tail, vI tail.length, vI kx, vU, vU, vU, vU, vU, vU, vU, vU], stT succ pred t at', 0, 0⟩) := by
  intro d
  have tk1 : (t.map cellI).take n = t.map cellI := List.take_of_length_le (by simp; omega)
  have tk2 : (at'.map cellI).take n = at'.map cellI := List.take_of_length_le (by simp; omega)
  induction d with
  | zero =>
    intro k b c a0 a3 a5 a8 a9 a12 a13 a14 a15 a16 a17 a21 a25 a26 a27 a28 h1 h2 h
    have hk : k = ps.length := by omega
    subst hk
    rw [List.drop_length] at h
    simp only [bestOf, Option.some.injEq] at h
    subst h
    rw [dom_Tree_l2_eq, dom_Tree_b2]
    simp -implicitDefEqProofs only [go_sem, stT, obG, Int.lt_irrefl]
  | succ d ih =>
    intro k b c a0 a3 a5 a8 a9 a12 a13 a14 a15 a16 a17 a21 a25 a26 a27 a28 h1 h2 h
    have hk : k < ps.length := by omega
    have hd : ps.drop k = ps[k] :: ps.drop (k + 1) := List.drop_eq_getElem_cons hk
    rw [hd, bestOf] at h
    split at h
    · rename_i hr
      obtain ⟨p1, p2, p3, p4⟩ := inR_and hr
      have p2' : ps[k] < (n : Int) := by omega
      rw [dom_Tree_l2_eq, dom_Tree_b2]
      split at h
      · rename_i c1
        have := ih (k + 1) b c vU vU vU vU vU vU vU vU vU vU vU vU vU vU vU vU (by omega) (by omega) h
        simp -implicitDefEqProofs only [go_sem, stT, obG] at this
        simp -implicitDefEqProofs only [go_sem, stT, obG, ilt hk, getr hk, ri, p1, p2', cellT p3 p4, c1, wrap_succ hk hps0, this]
      · rename_i c1
        split at h
        · rename_i c2
          subst c2
          have := ih (k + 1) ps[k] c vU vU vU vU vU vU vU vU vU vU vU vU vU vU vU vU (by omega) (by omega) h
          simp -implicitDefEqProofs only [go_sem, stT, obG] at this
          simp -implicitDefEqProofs only [go_sem, stT, obG, ilt hk, getr hk, ri, p1, p2', cellT p3 p4, c1, wrap_succ hk hps0, this]
        · rename_i c2
          split at h
          · cases h
          · rename_i m hm
            have hc := meet_call t at' K K b ps[k] m hm
            have := ih (k + 1) m c vU vU vU vU vU vU vU vU vU vU vU vU vU vU vU vU (by omega) (by omega) h
            simp -implicitDefEqProofs only [go_sem, stT, obG] at this hc
            simp -implicitDefEqProofs only [go_sem, stT, obG, ilt hk, getr hk, ri, p1, p2', cellT p3 p4, c1, c2, tk1, tk2, frzRows_cellI, hc, wrap_succ hk hps0, this]
    · cases h
theorem tree_l3 (K : Nat) (t : List Int) (ht : t.length = n) : ∀ (d k : Nat) (res : Option (Int × Int)) (a0 a3 a5 a8 a9 a10 a11 a12 a13 a14 a15 a16 a17 a21 a22 a23 a24 a25 a26 a27 a28 : V), tail.length - k = d → k ≤ tail.length → passT pred t at' K (tail.drop k) = some res →
    exec T dom_Tree_l3 ⟨[a0, vI root, .one (.ptr 0 0 0 0), a3, vIs order, a5, .one (.own 1 0 0 n), .one (.own 2 0 0 n), a8, a9, a10, a11, a12, a13, a14, a15, a16, a17, vIs tail, vI tail.length, vI k, a21, a22, a23, a24, a25, a26, a27, a28], stT succ pred t at', 0, 0⟩ =
      some (match res with
        | none => (.exit 2, ⟨[vU, vI root, vU, vU, vU, vU, .one (.own 1 0 0 n), vU, vU, vU, vU, vU, vU, vU, vU, vU, vU, vU, vU, vU, vU, vU, vU, vU, vU, vU, vU, vU, vU], stT succ pred t at', 0, 0⟩)
        | some (x, b) => (.goto 0, ⟨[vU, vI root, .one (.ptr 0 0 0 0), vU, vIs order, vU, .one (.own 1 0 0 n), .one (.own 2 0 0 n), vU, vU, vU, vU, vU, vU, vU, vU, vU, vU, vU, vU, vU, vU, vU, vU, vU, vU, vU, vU, vU], stT succ pred (t.set x.toNat b) at', 0, 0⟩)) := by
  intro d
  induction d with
  | zero =>
    intro k res a0 a3 a5 a8 a9 a10 a11 a12 a13 a14 a15 a16 a17 a21 a22 a23 a24 a25 a26 a27 a28 h1 h2 h
    have hk : k = tail.length := by omega
    subst hk
    rw [List.drop_length] at h
    simp only [passT, Option.some.injEq] at h
    subst h
    rw [dom_Tree_l3_eq, dom_Tree_b3]
    simp -implicitDefEqProofs only [go_sem, stT, obG, Int.lt_irrefl]
  | succ d ih =>
    intro k res a0 a3 a5 a8 a9 a10 a11 a12 a13 a14 a15 a16 a17 a21 a22 a23 a24 a25 a26 a27 a28 h1 h2 h
    have hk : k < tail.length := by omega
    have hd : tail.drop k = tail[k] :: tail.drop (k + 1) := List.drop_eq_getElem_cons hk
    rw [hd, passT] at h
    split at h
    · rename_i hr
      obtain ⟨p1, p2, p3, p4⟩ := inR_and hr
      have p2' : tail[k] < (n : Int) := by omega
      have hpx : tail[k].toNat < pred.length := by omega
      have hgp : pred.getD tail[k].toNat [] = pred[tail[k].toNat] := by simp [hpx]
      rw [hgp] at h
      split at h
      · cases h
      · rename_i b hb
        have hl2 := fun a0 a3 a5 a8 a9 a12 a13 a14 a15 a16 a17 a21 a25 a26 a27 a28 => tree_l2 succ pred hpl hps n hn hn64 root order tail at' hat htl K t ht tail[k] k pred[tail[k].toNat] (hps _ (List.getElem_mem hpx)) _ 0 (-2) b a0 a3 a5 a8 a9 a12 a13 a14 a15 a16 a17 a21 a25 a26 a27 a28 rfl (Nat.zero_le _) hb
        rw [dom_Tree_l3_eq, dom_Tree_b3]
        simp only [Int.natCast_zero] at hl2
        split at h
        · rename_i c1
          have := ih (k + 1) res vU vU vU vU vU vU vU vU vU vU vU vU vU vU vU vU vU vU vU vU vU (by omega) (by omega) h
          simp -implicitDefEqProofs only [go_sem, stT, obG] at this hl2
          simp -implicitDefEqProofs only [go_sem, stT, obG, ilt hk, getr hk, getr hpx, ri, rl, p1, p2', hl2, cellT p3 p4, c1, wrap_succ hk htl, this]
        · rename_i c1
          injection h with h
          subst h
          have hset : (t.map cellI).set tail[k].toNat [C.f (.lit (.int .i64 b))] = (t.set tail[k].toNat b).map cellI := by rw [List.map_set]; rfl
          simp -implicitDefEqProofs only [go_sem, stT, obG] at hl2
          simp -implicitDefEqProofs only [go_sem, stT, obG, ilt hk, getr hk, getr hpx, ri, rl, p1, p2', hl2, cellT p3 p4, c1, hset]
    · cases h
end
end AC

namespace AC
open Go Go.A Go.A.Lex
def fillAt : Nat → List Int → List Int → List Int
  | _, [], at' => at'
  | i, x :: r, at' => fillAt (i + 1) r (at'.set x.toNat (i : Int))
theorem fillAt_length : ∀ (l : List Int) (i : Nat) (a : List Int), (fillAt i l a).length = a.length
  | [], _, _ => rfl
  | x :: r, i, a => by rw [fillAt, fillAt_length r]; simp
theorem treeRun_length {pred : List (List Int)} {at' : List Int} {K : Nat} {tail : List Int} : ∀ {r : Nat} {t t' : List Int}, treeRun pred at' K tail r t = some t' → t'.length = t.length
  | 0, _, _, h => by simp [treeRun] at h
  | r + 1, t, t', h => by
    simp only [treeRun] at h
    split at h
    · cases h
    · injection h with h; rw [h]
    · rw [treeRun_length h]; simp
def treeRest : Go.A.Code := dom_Tree_s4.p2.p2.p2.p2.p2.p2.p2
theorem tree_r4 : dom_Tree_r4 = .seq .skip treeRest := rfl
section
variable (succ pred : List (List Int)) (hpl : pred.length = succ.length) (hps : ∀ l ∈ pred, l.length ≤ 4294967296) (n : Nat) (hn : n = succ.length) (hn64 : n ≤ 64) (root : Nat) (hroot : root < n) (tail : List Int) (htl : tail.length ≤ 4294967295)
include hpl hps hn hn64
theorem fill_l1 (order : List Int) (hol : order.length ≤ 4294967296) (ho : ∀ x ∈ order, 0 ≤ x ∧ x < (n : Int)) (t : List Int) : ∀ (d k : Nat) (at' : List Int) (a0 a3 a5 a8 a9 a10 a11 a12 a13 a17 a18 a19 a20 a21 a22 a23 a24 a25 a26 a27 a28 : V), at'.length = n → order.length - k = d → k ≤ order.length →
    exec T dom_Tree_l1 ⟨[a0, vI root, .one (.ptr 0 0 0 0), a3, vIs order, a5, .one (.own 1 0 0 n), .one (.own 2 0 0 n), a8, a9, a10, a11, a12, a13, vIs order, vI order.length, vI k, a17, a18, a19, a20, a21, a22, a23, a24, a25, a26, a27, a28], stT succ pred t at', 0, 0⟩ =
      some (.exit 0, ⟨[vU, vI root, .one (.ptr 0 0 0 0), vU, vIs order, vU, .one (.own 1 0 0 n), .one (.own 2 0 0 n), vU, vU, vU, vU, vU, vU, vU, vU, vU, vU, vU, vU, vU, vU, vU, vU, vU, vU, vU, vU, vU], stT succ pred t (fillAt k (order.drop k) at'), 0, 0⟩) := by
  intro d
  induction d with
  | zero =>
    intro k at' a0 a3 a5 a8 a9 a10 a11 a12 a13 a17 a18 a19 a20 a21 a22 a23 a24 a25 a26 a27 a28 ha h1 h2
    have hk : k = order.length := by omega
    subst hk
    rw [dom_Tree_l1_eq, dom_Tree_b1]
    simp -implicitDefEqProofs only [go_sem, stT, obG, Int.lt_irrefl, List.drop_length, fillAt]
  | succ d ih =>
    intro k at' a0 a3 a5 a8 a9 a10 a11 a12 a13 a17 a18 a19 a20 a21 a22 a23 a24 a25 a26 a27 a28 ha h1 h2
    have hk : k < order.length := by omega
    have hd : order.drop k = order[k] :: order.drop (k + 1) := List.drop_eq_getElem_cons hk
    obtain ⟨p1, p2⟩ := ho _ (List.getElem_mem hk)
    have hc := cellT (t := at') (a := order[k]) (by omega) (by omega)
    have hset : (at'.map cellI).set order[k].toNat [C.f (.lit (.int .i64 (k : Int)))] = (at'.set order[k].toNat (k : Int)).map cellI := by rw [List.map_set]; rfl
    have := ih (k + 1) (at'.set order[k].toNat (k : Int)) vU vU vU vU vU vU vU vU vU vU vU vU vU vU vU vU vU vU vU vU vU (by simpa using ha) (by omega) (by omega)
    rw [dom_Tree_l1_eq, dom_Tree_b1, hd, fillAt]
    simp -implicitDefEqProofs only [go_sem, stT, obG] at this
    simp -implicitDefEqProofs only [go_sem, stT, obG, ilt hk, getr hk, ri, p1, p2, hc, hset, wrap_succ hk hol, this]
include hroot htl
theorem rest_round (K : Nat) (at' : List Int) (hat : at'.length = n) (t : List Int) (ht : t.length = n) (o0 : Int) (res : Option (Int × Int)) (h : passT pred t at' K tail = some res)
    (a0 a3 a5 a8 a9 a10 a11 a12 a13 a14 a15 a16 a17 a18 a19 a20 a21 a22 a23 a24 a25 a26 a27 a28 : V) :
    exec T treeRest ⟨[a0, vI root, .one (.ptr 0 0 0 0), a3, vIs (o0 :: tail), a5, .one (.own 1 0 0 n), .one (.own 2 0 0 n), a8, a9, a10, a11, a12, a13, a14, a15, a16, a17, a18, a19, a20, a21, a22, a23, a24, a25, a26, a27, a28], stT succ pred t at', 0, 0⟩ =
      some (match res with
        | none => (.ret, ⟨[vU, vU, vU, .one (.own 1 0 0 n), vU, vU, vU, vU, vU, vU, vU, vU, vU, vU, vU, vU, vU, vU, vU, vU, vU, vU, vU, vU, vU, vU, vU, vU, vU], stT succ pred (t.set root (-1)) at', 0, 0⟩)
        | some (x, b) => (.goto 0, ⟨[vU, vI root, .one (.ptr 0 0 0 0), vU, vIs (o0 :: tail), vU, .one (.own 1 0 0 n), .one (.own 2 0 0 n), vU, vU, vU, vU, vU, vU, vU, vU, vU, vU, vU, vU, vU, vU, vU, vU, vU, vU, vU, vU, vU], stT succ pred (t.set x.toNat b) at', 0, 0⟩)) := by
  have h3 := fun a0 a3 a5 a8 a9 a10 a11 a12 a13 a14 a15 a16 a17 a21 a22 a23 a24 a25 a26 a27 a28 => tree_l3 succ pred hpl hps n hn hn64 root (o0 :: tail) tail at' hat (by omega) K t ht tail.length 0 res a0 a3 a5 a8 a9 a10 a11 a12 a13 a14 a15 a16 a17 a21 a22 a23 a24 a25 a26 a27 a28 (by omega) (by omega) h
  simp only [Int.natCast_zero] at h3
  have hri : (ri o0).length = 1 := rfl
  have e1 : (ri o0 :: tail.map ri).take (tail.length + 1) = ri o0 :: tail.map ri := List.take_of_length_le (by simp)
  have e2 : (1 ≤ tail.length + 1) = True := by simp
  have hrt : ((root : Int) < (n : Int)) = True := by simp; omega
  have hset : (t.map cellI).set root [C.f (.lit (.int .i64 (-1)))] = (t.set root (-1)).map cellI := by rw [List.map_set]; rfl
  have hc := cellT (t := t) (a := (root : Int)) (by omega) (by omega)
  rw [Int.toNat_natCast] at hc
  cases res with
  | none =>
    simp -implicitDefEqProofs only [go_sem, stT, obG] at h3
    simp -implicitDefEqProofs only [go_sem, stT, obG, treeRest, dom_Tree_s4, Code.p2, Int.reduceToNat, hri, okSz_ri, e1, e2, h3, hrt, Int.natCast_nonneg, Int.toNat_natCast, hc, hset]
  | some xb =>
    obtain ⟨x, b⟩ := xb
    simp -implicitDefEqProofs only [go_sem, stT, obG] at h3
    simp -implicitDefEqProofs only [go_sem, stT, obG, treeRest, dom_Tree_s4, Code.p2, Int.reduceToNat, hri, okSz_ri, e1, e2, h3]
theorem tree_run (K : Nat) (at' : List Int) (hat : at'.length = n) (o0 : Int) : ∀ (r : Nat) (t t' : List Int) (a0 a3 a5 a8 a9 a10 a11 a12 a13 a14 a15 a16 a17 a18 a19 a20 a21 a22 a23 a24 a25 a26 a27 a28 : V), t.length = n → treeRun pred at' K tail r t = some t' →
    exec T (.sc dom_Tree_s4 dom_Tree_r4) ⟨[a0, vI root, .one (.ptr 0 0 0 0), a3, vIs (o0 :: tail), a5, .one (.own 1 0 0 n), .one (.own 2 0 0 n), a8, a9, a10, a11, a12, a13, a14, a15, a16, a17, a18, a19, a20, a21, a22, a23, a24, a25, a26, a27, a28], stT succ pred t at', 0, 0⟩ =
      some (.ret, ⟨[vU, vU, vU, .one (.own 1 0 0 n), vU, vU, vU, vU, vU, vU, vU, vU, vU, vU, vU, vU, vU, vU, vU, vU, vU, vU, vU, vU, vU, vU, vU, vU, vU], stT succ pred (t'.set root (-1)) at', 0, 0⟩) := by
  intro r
  induction r with
  | zero => intro t t' _ _ _ _ _ _ _ _ _ _ _ _ _ _ _ _ _ _ _ _ _ _ _ _ _ h; simp [treeRun] at h
  | succ r ih =>
    intro t t' a0 a3 a5 a8 a9 a10 a11 a12 a13 a14 a15 a16 a17 a18 a19 a20 a21 a22 a23 a24 a25 a26 a27 a28 ht h
    rw [treeRun] at h
    rw [exec_sc, tree_r4, exec_seq, exec_skip]
    simp only [Option.bind_some, seqK]
    split at h
    · cases h
    · rename_i hp
      injection h with h
      subst h
      rw [rest_round succ pred hpl hps n hn hn64 root hroot tail htl K at' hat t ht o0 none hp]
      simp only [Option.bind_some, scK]
    · rename_i x b hp
      rw [rest_round succ pred hpl hps n hn hn64 root hroot tail htl K at' hat t ht o0 (some (x, b)) hp]
      simp only [Option.bind_some, scK, dom_Tree_r4_eq]
      exact ih _ _ _ _ _ _ _ _ _ _ _ _ _ _ _ _ _ _ _ _ _ _ _ _ _ _ (by simpa using ht) h
end
def treeA : Go.A.Code := dom_Tree_s4.p1
def treeB : Go.A.Code := dom_Tree_s4.p2.p1
def treeC : Go.A.Code := dom_Tree_s4.p2.p2.p1
def treeD : Go.A.Code := dom_Tree_s4.p2.p2.p2.p1
def treeE : Go.A.Code := dom_Tree_s4.p2.p2.p2.p2.p1
def treeF : Go.A.Code := dom_Tree_s4.p2.p2.p2.p2.p2.p1
theorem s4_eq : dom_Tree_s4 = .seq treeA (.seq treeB (.seq treeC (.seq treeD (.seq treeE (.seq treeF (.seq (.label 0) treeRest)))))) := rfl
/-- The tree as it begins, and the places in the order. -/
def tree0 (n root : Nat) : List Int := (List.replicate n (-2 : Int)).set root root
def at0 (n : Nat) (order : List Int) : List Int := fillAt 0 order (List.replicate n 0)
theorem Tree_call (succ pred : List (List Int)) (hs : okSucc succ) (hm : mayG succ pred = true) (root : Nat) (hr : root < succ.length) (k : Nat) (hk : k ≤ 4294967295) (o : List Int) (ho : dfs succ k (dfs0 root) = some o)
    (o0 : Int) (tail : List Int) (hrev : o.reverse = o0 :: tail) (hor : ∀ x ∈ o, 0 ≤ x ∧ x < (succ.length : Int)) (hol : o.length ≤ 4294967295) (K r : Nat) (t : List Int) (ht : treeRun pred (at0 succ.length o.reverse) K tail r (tree0 succ.length root) = some t) :
    call T F.dom_Tree [.agg [.f (.sl (succ.map rl)), .f (.sl (pred.map rl))], vI root] [] = some (vIs (t.set root (-1)), []) := by
  rw [call_eq (fn := a_dom_Tree) rfl]
  have hmk : makeOk succ = true ∧ predsS succ = pred := by simpa [mayG] using hm
  obtain ⟨q1, q2, q3⟩ := makeOk_facts hmk.1
  have hpl : pred.length = succ.length := by rw [← hmk.2, predsS_length]
  have hps : ∀ l ∈ pred, l.length ≤ 4294967296 := by rw [← hmk.2]; exact predsS_le succ hs (makeOk_sum hmk.1)
  have hO := Order_call succ pred hs hm root hr k hk o ho
  have hR := Repeat_call succ.length q1 q2
  have htl : tail.length ≤ 4294967295 := by
    have : o.reverse.length = tail.length + 1 := by rw [hrev]; rfl
    rw [List.length_reverse] at this
    omega
  have hf := fun a0 a3 a5 a8 a9 a10 a11 a12 a13 a17 a18 a19 a20 a21 a22 a23 a24 a25 a26 a27 a28 => fill_l1 succ pred hpl hps succ.length rfl q2 root (o0 :: tail) (by simp only [List.length_cons]; omega) (fun x hx => hor x (List.mem_reverse.1 (by rw [hrev]; exact hx))) (List.replicate succ.length (-2)) (o0 :: tail).length 0 (List.replicate succ.length 0) a0 a3 a5 a8 a9 a10 a11 a12 a13 a17 a18 a19 a20 a21 a22 a23 a24 a25 a26 a27 a28 (by simp) rfl (Nat.zero_le _)
  simp only [List.drop_zero, Int.natCast_zero] at hf
  rw [hrev] at hO ht
  have hrt : ((root : Int) < (succ.length : Int)) = True := by simp; omega
  have hset : ((List.replicate succ.length (-2 : Int)).map cellI).set root [C.f (.lit (.int .i64 (root : Int)))] = (tree0 succ.length root).map cellI := by rw [tree0, List.map_set]; rfl
  have hcell : ((List.replicate succ.length (-2 : Int)).map cellI)[root]? = some [.f (.lit (.int .i64 (-2)))] := by simp [hr, cellI]
  have hat : (at0 succ.length (o0 :: tail)).length = succ.length := by rw [at0, fillAt_length]; simp
  have hlim : (succ.length : Int) ≤ (LIM : Int) := by unfold LIM; omega
  have hz : List.replicate succ.length [C.f (.lit (.int .i64 0))] = (List.replicate succ.length (0 : Int)).map cellI := by rw [List.map_replicate]; rfl
  have hnz : ¬ ((tail.length + 1 : Nat) : Int) = 0 := by omega
  have e1 : exec T (.scope dom_Tree_s4) ⟨[.agg [.f (.sl (succ.map rl)), .f (.sl (pred.map rl))], vI root, .one (.ptr 0 0 0 0), vL [], vU, vU, vU, vU, vU, vU, vU, vU, vU, vU, vU, vU, vU, vU, vU, vU, vU, vU, vU, vU, vU, vU, vU, vU, vU], [obG succ pred], 0, 0⟩ = some (.ret, ⟨[vU, vU, vU, .one (.own 1 0 0 succ.length), vU, vU, vU, vU, vU, vU, vU, vU, vU, vU, vU, vU, vU, vU, vU, vU, vU, vU, vU, vU, vU, vU, vU, vU, vU], stT succ pred (t.set root (-1)) (at0 succ.length (o0 :: tail)), 0, 0⟩) := by
    have h := fun a0 a3 a5 a8 a9 a10 a11 a12 a13 a14 a15 a16 a17 a18 a19 a20 a21 a22 a23 a24 a25 a26 a27 a28 => tree_run succ pred hpl hps succ.length rfl q2 root hr tail htl K (at0 succ.length (o0 :: tail)) hat o0 r (tree0 succ.length root) t a0 a3 a5 a8 a9 a10 a11 a12 a13 a14 a15 a16 a17 a18 a19 a20 a21 a22 a23 a24 a25 a26 a27 a28 (by simp [tree0]) ht
    rw [← h vU vU vU vU vU vU vU vU vU vU vU vU vU vU vU vU vU vU vU vU vU vU vU vU]
    rw [exec_scope, exec_sc, exec_sc]
    congr 1
    rw [tree_r4, exec_seq, exec_skip]
    simp only [Option.bind_some, seqK]
    rw [s4_eq]
    have hdt : treeD = .regd [] [⟨.loc, .bsl .fz 1 [[.f (.lit (.int .i64 0))]] [(0, .c (vI (-2)))], none⟩, ⟨.loc, .mv (.s 5), none⟩, ⟨.loc, .call .ck (.c (.one (.fn F.slices_Repeat_int [] []))) [.l 1, .l 0], none⟩, ⟨.loc, .mv (.s 5), none⟩, ⟨.loc, .mks [.f (.lit (.int .i64 0))] none (.l 0), none⟩, ⟨.slot 6, .mv (.l 2), none⟩, ⟨.slot 7, .mv (.l 1), none⟩] := rfl
    have hlr : (List.map cellI (List.replicate succ.length (-2 : Int))).map (C.shifts 1) = List.map cellI (List.replicate succ.length (-2 : Int)) := by
      rw [List.map_map]
      rfl
    simp -implicitDefEqProofs only [go_sem, obG, stT] at hO hR hf
    simp -implicitDefEqProofs only [go_sem, obG, stT, treeA, treeB, treeC, hdt, treeE, treeF, dom_Tree_s4, Code.p1, Code.p2, hO, hR, hnz, hlim, Int.natCast_nonneg, Int.toNat_natCast, hz, hlr, hf, hrt, hcell, hset]
    rfl
  have htk : ((t.set root (-1)).map cellI).take succ.length = (t.set root (-1)).map cellI := List.take_of_length_le (by have := treeRun_length ht; simp [tree0] at this; simp; omega)
  simp -implicitDefEqProofs only [go_sem, obG, stT] at e1
  simp -implicitDefEqProofs only [go_sem, a_dom_Tree, e1, htk, frzRows_cellI]
end AC
