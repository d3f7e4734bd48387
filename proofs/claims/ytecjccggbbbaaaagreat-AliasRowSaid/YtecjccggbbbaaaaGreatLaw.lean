import Derived.Test.YtecjccggbbbaaaaGreatCon
set_option linter.unusedVariables false
set_option linter.unusedSimpArgs false
namespace AC
theorem may_cons {last : Int} {t : Int × Int} {r : List (Int × Int)} : mayFrom last (t :: r) = true ↔ last < t.1 ∧ t.1 ≤ 1023 ∧ t.2 ≠ 0 ∧ mayFrom t.1 r = true := by
  simp only [mayFrom]
  split
  · simp only [Bool.false_eq_true, false_iff]
    omega
  · constructor
    · intro h
      exact ⟨by omega, by omega, by omega, h⟩
    · exact fun h => h.2.2.2
theorem may_mono {a b : Int} {l : List (Int × Int)} (h : a ≤ b) (hm : mayFrom b l = true) : mayFrom a l = true := by
  cases l with
  | nil => rfl
  | cons t r =>
    rw [may_cons] at hm ⊢
    exact ⟨by omega, hm.2⟩
def cf : List (Int × Int) → Int → Int
  | [], _ => 0
  | t :: r, v => if t.1 = v then t.2 else cf r v
theorem cf_lt : ∀ (l : List (Int × Int)) {a v : Int}, mayFrom a l = true → v ≤ a → cf l v = 0
  | [], _, _, _, _ => rfl
  | t :: r, a, v, h, hv => by
    rw [may_cons] at h
    rw [cf, if_neg (by omega)]
    exact cf_lt r h.2.2.2 (by omega)
theorem cf_ext : ∀ (l k : List (Int × Int)) {a b : Int}, mayFrom a l = true → mayFrom b k = true → (∀ v, cf l v = cf k v) → l = k
  | [], [], _, _, _, _, _ => rfl
  | t :: r, [], _, _, h, _, e => by
    rw [may_cons] at h
    have := e t.1
    simp [cf] at this
    exact absurd this h.2.2.1
  | [], t :: r, _, _, _, h, e => by
    rw [may_cons] at h
    have := e t.1
    simp [cf] at this
    exact absurd this.symm h.2.2.1
  | t :: r, u :: s, _, _, h, h', e => by
    rw [may_cons] at h h'
    have h1 := e t.1
    have h2 := e u.1
    rw [cf, cf] at h1 h2
    have e1 : t.1 = u.1 := by
      rcases Int.lt_trichotomy t.1 u.1 with hl | hl | hl
      · rw [if_pos rfl, if_neg (by omega), cf_lt s h'.2.2.2 (by omega)] at h1
        exact absurd h1 h.2.2.1
      · exact hl
      · rw [if_neg (by omega), if_pos rfl, cf_lt r h.2.2.2 (by omega)] at h2
        exact absurd h2.symm h'.2.2.1
    rw [if_pos rfl, if_pos e1.symm] at h1
    have e2 : t = u := Prod.ext e1 h1
    subst e2
    rw [cf_ext r s h.2.2.2 h'.2.2.2 fun v => ?_]
    have h3 := e v
    simp only [cf] at h3
    by_cases hv : t.1 = v
    · rw [cf_lt r h.2.2.2 (by omega), cf_lt s h'.2.2.2 (by omega)]
    · rwa [if_neg hv, if_neg hv] at h3
theorem may_consT {last a b : Int} {l : List (Int × Int)} (h : last < a) (h' : a ≤ 1023) (hm : mayFrom a l = true) : mayFrom last (consT a b l) = true := by
  unfold consT
  split
  · exact may_mono (by omega) hm
  · rw [may_cons]
    exact ⟨h, h', by assumption, hm⟩
theorem cf_consT (a b : Int) (l : List (Int × Int)) (v : Int) (h : mayFrom a l = true) : cf (consT a b l) v = if a = v then b else cf l v := by
  unfold consT
  split
  · rename_i hb
    split
    · rename_i hv
      rw [cf_lt l h (by omega), hb]
    · rfl
  · rfl
theorem may_merge (op : Int → Int → Int) : ∀ (ts us : List (Int × Int)) (last : Int), mayFrom last ts = true → mayFrom last us = true → mayFrom last (mergeT op ts us) = true
  | [], [], _, _, _ => by rw [mergeT]; rfl
  | t :: ts, [], last, h, _ => by
    rw [may_cons] at h
    rw [mergeT]
    exact may_consT h.1 h.2.1 (may_merge op ts [] t.1 h.2.2.2 rfl)
  | [], u :: us, last, _, h => by
    rw [may_cons] at h
    rw [mergeT]
    exact may_consT h.1 h.2.1 (may_merge op [] us u.1 rfl h.2.2.2)
  | t :: ts, u :: us, last, h, h' => by
    have k := may_cons.1 h
    have k' := may_cons.1 h'
    rw [mergeT]
    split
    · exact may_consT k.1 k.2.1 (may_merge op ts (u :: us) t.1 k.2.2.2 (may_cons.2 ⟨by assumption, k'.2⟩))
    · split
      · exact may_consT k'.1 k'.2.1 (may_merge op (t :: ts) us u.1 (may_cons.2 ⟨by assumption, k.2⟩) k'.2.2.2)
      · have : t.1 = u.1 := by omega
        exact may_consT k.1 k.2.1 (may_merge op ts us t.1 k.2.2.2 (this ▸ k'.2.2.2))
  termination_by ts us => ts.length + us.length
theorem cf_merge (op : Int → Int → Int) (h0 : op 0 0 = 0) (v : Int) : ∀ (ts us : List (Int × Int)) (last : Int), mayFrom last ts = true → mayFrom last us = true → cf (mergeT op ts us) v = op (cf ts v) (cf us v)
  | [], [], _, _, _ => by rw [mergeT]; simp [cf, h0]
  | t :: ts, [], last, h, _ => by
    rw [may_cons] at h
    rw [mergeT, cf_consT _ _ _ _ (may_merge op ts [] t.1 h.2.2.2 rfl), cf_merge op h0 v ts [] t.1 h.2.2.2 rfl]
    simp only [cf]
    split <;> rfl
  | [], u :: us, last, _, h => by
    rw [may_cons] at h
    rw [mergeT, cf_consT _ _ _ _ (may_merge op [] us u.1 rfl h.2.2.2), cf_merge op h0 v [] us u.1 rfl h.2.2.2]
    simp only [cf]
    split <;> rfl
  | t :: ts, u :: us, last, h, h' => by
    have k := may_cons.1 h
    have k' := may_cons.1 h'
    rw [mergeT]
    split
    · have m : mayFrom t.1 (u :: us) = true := may_cons.2 ⟨by assumption, k'.2⟩
      rw [cf_consT _ _ _ _ (may_merge op ts (u :: us) t.1 k.2.2.2 m), cf_merge op h0 v ts (u :: us) t.1 k.2.2.2 m]
      by_cases hv : t.1 = v
      · rw [if_pos hv, cf_lt (u :: us) m (by omega), cf, if_pos hv]
      · rw [if_neg hv]
        conv => rhs; rw [cf]
        rw [if_neg hv]
    · split
      · have m : mayFrom u.1 (t :: ts) = true := may_cons.2 ⟨by assumption, k.2⟩
        rw [cf_consT _ _ _ _ (may_merge op (t :: ts) us u.1 m k'.2.2.2), cf_merge op h0 v (t :: ts) us u.1 m k'.2.2.2]
        by_cases hv : u.1 = v
        · rw [if_pos hv, cf_lt (t :: ts) m (by omega), cf, if_pos hv]
        · rw [if_neg hv]
          conv => rhs; rw [cf.eq_2 v u]
          rw [if_neg hv]
      · have e : t.1 = u.1 := by omega
        have m : mayFrom t.1 us = true := e ▸ k'.2.2.2
        rw [cf_consT _ _ _ _ (may_merge op ts us t.1 k.2.2.2 m), cf_merge op h0 v ts us t.1 k.2.2.2 m]
        simp only [cf, ← e]
        split <;> rfl
  termination_by ts us => ts.length + us.length
theorem len_consT (a b : Int) (l : List (Int × Int)) : (consT a b l).length ≤ l.length + 1 := by
  unfold consT
  split
  · omega
  · simp
theorem len_merge (op : Int → Int → Int) : ∀ (ts us : List (Int × Int)), (mergeT op ts us).length ≤ ts.length + us.length
  | [], [] => by rw [mergeT]; simp
  | t :: ts, [] => by
    rw [mergeT]
    have := len_merge op ts []
    have := len_consT t.1 (op t.2 0) (mergeT op ts [])
    simp only [List.length_cons, List.length_nil] at *
    omega
  | [], u :: us => by
    rw [mergeT]
    have := len_merge op [] us
    have := len_consT u.1 (op 0 u.2) (mergeT op [] us)
    simp only [List.length_cons, List.length_nil] at *
    omega
  | t :: ts, u :: us => by
    rw [mergeT]
    split
    · have := len_merge op ts (u :: us)
      have := len_consT t.1 (op t.2 0) (mergeT op ts (u :: us))
      simp only [List.length_cons] at *
      omega
    · split
      · have := len_merge op (t :: ts) us
        have := len_consT u.1 (op 0 u.2) (mergeT op (t :: ts) us)
        simp only [List.length_cons] at *
        omega
      · have := len_merge op ts us
        have := len_consT t.1 (op t.2 u.2) (mergeT op ts us)
        simp only [List.length_cons] at *
        omega
  termination_by ts us => ts.length + us.length
/-! ### Numbers -/
theorem u64w_eq (x : Int) : u64w x = x % 18446744073709551616 := by
  unfold u64w Go.IntKind.wrap Go.IntKind.bits Go.IntKind.signed
  simp only [Bool.false_and, if_neg Bool.false_ne_true]
  rfl
def u64ok (x : Int) : Prop := 0 ≤ x ∧ x < 18446744073709551616
theorem cf_ok : ∀ (l : List (Int × Int)) (_ : ∀ t ∈ l, u64ok t.2) (v : Int), u64ok (cf l v)
  | [], _, _ => ⟨by simp [cf], by simp [cf]⟩
  | t :: r, h, v => by
    rw [cf]
    split
    · exact h t List.mem_cons_self
    · exact cf_ok r (fun u hu => h u (List.mem_cons_of_mem _ hu)) v
section
variable (ts us : List (Int × Int)) (a b n : Int) (ht : mayFrom 0 ts = true) (hu : mayFrom 0 us = true)
include ht hu
theorem ring_comm : mergeT pl ts us = mergeT pl us ts := by
  refine cf_ext _ _ (may_merge pl ts us 0 ht hu) (may_merge pl us ts 0 hu ht) fun v => ?_
  rw [cf_merge pl rfl v ts us 0 ht hu, cf_merge pl rfl v us ts 0 hu ht, pl, pl, Int.add_comm]
omit hu in
theorem ring_less : mergeT mi ts ts = [] := by
  refine cf_ext _ _ (may_merge mi ts ts 0 ht ht) (b := 0) rfl fun v => ?_
  rw [cf_merge mi rfl v ts ts 0 ht ht, mi, Int.sub_self]
  rfl
omit ht hu in
theorem ti_zero : ti n 0 0 = 0 := by
  rw [ti, Int.zero_mul]
  rfl
omit ht hu in
theorem num_dist : ti n (pl a b) 0 = pl (ti n a 0) (ti n b 0) := by
  simp only [ti, pl, u64w_eq]
  rw [Int.mul_emod ((a + b) % 18446744073709551616) n, Int.emod_emod_of_dvd _ (Int.dvd_refl _), ← Int.mul_emod, ← Int.add_emod, Int.add_mul]
theorem ring_dist : mergeT (ti n) (mergeT pl ts us) [] = mergeT pl (mergeT (ti n) ts []) (mergeT (ti n) us []) := by
  have m1 := may_merge pl ts us 0 ht hu
  have m2 := may_merge (ti n) ts [] 0 ht rfl
  have m3 := may_merge (ti n) us [] 0 hu rfl
  refine cf_ext _ _ (may_merge (ti n) _ [] 0 m1 rfl) (may_merge pl _ _ 0 m2 m3) fun v => ?_
  rw [cf_merge _ (ti_zero n) v _ [] 0 m1 rfl, cf_merge pl rfl v _ _ 0 m2 m3, cf_merge _ (ti_zero n) v _ [] 0 ht rfl, cf_merge _ (ti_zero n) v _ [] 0 hu rfl, cf_merge pl rfl v ts us 0 ht hu]
  exact num_dist _ _ n
omit ht hu in
theorem num_back (ha : u64ok a) : mi (pl a b) b = a := by
  simp only [mi, pl, u64w_eq]
  rw [Int.sub_emod, Int.emod_emod_of_dvd _ (Int.dvd_refl _), ← Int.sub_emod, Int.add_sub_cancel]
  exact Int.emod_eq_of_lt ha.1 ha.2
theorem ring_back (ha : ∀ t ∈ ts, u64ok t.2) : mergeT mi (mergeT pl ts us) us = ts := by
  have m1 := may_merge pl ts us 0 ht hu
  refine cf_ext _ _ (may_merge mi _ us 0 m1 hu) ht fun v => ?_
  rw [cf_merge mi rfl v _ us 0 m1 hu, cf_merge pl rfl v ts us 0 ht hu]
  exact num_back _ _ (cf_ok ts ha v)
omit ht hu in
theorem num_one (ha : u64ok a) : ti 1 a 0 = a := by
  rw [ti, Int.mul_one, u64w_eq]
  exact Int.emod_eq_of_lt ha.1 ha.2
omit hu in
theorem ring_one (ha : ∀ t ∈ ts, u64ok t.2) : mergeT (ti 1) ts [] = ts := by
  refine cf_ext _ _ (may_merge (ti 1) _ [] 0 ht rfl) ht fun v => ?_
  rw [cf_merge _ (ti_zero 1) v _ [] 0 ht rfl]
  exact num_one _ (cf_ok ts ha v)
omit ht hu in
theorem num_none : ti 0 a 0 = 0 := by
  rw [ti, Int.mul_zero]
  rfl
omit hu in
theorem ring_none : mergeT (ti 0) ts [] = [] := by
  refine cf_ext _ _ (may_merge (ti 0) _ [] 0 ht rfl) (b := 0) rfl fun v => ?_
  rw [cf_merge _ (ti_zero 0) v _ [] 0 ht rfl]
  exact num_none _
end
end AC
