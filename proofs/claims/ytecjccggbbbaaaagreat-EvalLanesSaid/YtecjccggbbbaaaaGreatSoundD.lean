/- What is dropped; what a call of its own store takes and gives. -/
import Derived.Test.YtecjccggbbbaaaaGreatSoundC
import Derived.Laws.BytesArg
import Derived.Laws.Strings
import Derived.Scope
set_option linter.unusedVariables false
set_option linter.unusedSimpArgs false
namespace Go.A

/-- Owners from n on are forgotten. -/
def Ow.cut (n : Nat) : Ow → Ow
  | .no => .no
  | .ob id => if id < n then .ob id else .no
  | .tk t k => if t < n then .tk t k else .no
theorem Ow.cut_cut {n m : Nat} (h : n ≤ m) (o : Ow) (ho : o.cut n = o) : o.cut m = o := by
  cases o with
  | no => rfl
  | ob id =>
    simp only [Ow.cut] at ho ⊢
    split at ho
    · rw [if_pos (by omega)]
    · cases ho
  | tk t k =>
    simp only [Ow.cut] at ho ⊢
    split at ho
    · rw [if_pos (by omega)]
    · cases ho
theorem Ow.cut_idem (n : Nat) (o : Ow) : (o.cut n).cut n = o.cut n := by
  cases o with
  | no => rfl
  | ob id => by_cases h : id < n <;> simp [Ow.cut, h]
  | tk t k => by_cases h : t < n <;> simp [Ow.cut, h]

/-- The objects from n on are dropped: their rows may be counted on from now on. -/
def G.drop (g : G) (n : Nat) (w : World) : G :=
  { g with
    ow := fun b => (g.ow b).cut n
    N := fun b o => g.N b o ∨ (b < w.heap.size ∧ ∃ id, n ≤ id ∧ g.ow b = .ob id) }
/-- Nobody from n on has a block. -/
def Clean (g : G) (n : Nat) : Prop := ∀ b, (g.ow b).cut n = g.ow b

section
variable {g : G} {w : World} {σ : Store} {n : Nat}

theorem take_get {α : Type} {l : List α} {i n : Nat} (h : i < n) : (l.take n)[i]? = l[i]? := by rw [List.getElem?_take, if_pos h]
theorem shape_take {id : Nat} (h : id < n) : shapeOf (σ.take n) id = shapeOf σ id := by unfold shapeOf; rw [take_get h]
theorem fr_take {t k : Nat} (h : t < n) : frOf (σ.take n) t k = frOf σ t k := by unfold frOf; rw [take_get h]
theorem tsz_take {t : Nat} (h : t < n) : tokSz (σ.take n) t = tokSz σ t := by unfold tokSz; rw [take_get h]
theorem drop_keeps : Keeps w w g.N (g.drop n w).N := fun _ _ h => ⟨.inl h, rfl⟩

mutual
theorem crel_drop : ∀ (c : C) (u : Value), crel g w σ c u → c.lt n = true → crel (g.drop n w) w (σ.take n) c u
  | .f x, u, h, _ => by
    simp only [crel] at h ⊢
    exact rep_mono drop_keeps x u h
  | .ap t k xs, u, h, hl => by
    have ht : t < n := by simpa [C.lt] using hl
    simp only [crel] at h ⊢
    obtain ⟨h1, m, h2, h3, h4, sz, h5, h6⟩ := h
    exact ⟨rep_mono drop_keeps _ u h1, m, by rw [fr_take ht]; exact h2, h3, h4, sz, by rw [tsz_take ht]; exact h5, h6⟩
  | .ptr id ver i off, u, h, hl => by
    have ht : id < n := by simpa [C.lt] using hl
    simp only [crel] at h ⊢
    rw [shape_take ht]
    exact h
  | .fp cs off, u, h, _ => by
    simp only [crel] at h ⊢
    obtain ⟨b, o, h1, h2⟩ := h
    exact ⟨b, o, h1, repRow_mono drop_keeps cs b o h2⟩
  | .own id ver lo m, u, h, hl => by
    have ht : id < n := by simpa [C.lt] using hl
    simp only [crel] at h ⊢
    rw [shape_take ht]
    exact h
  | .map id, u, h, hl => by
    have ht : id < n := by simpa [C.lt] using hl
    simp only [crel] at h ⊢
    rw [take_get ht]
    exact h
  | .fn f a b, u, h, hl => by
    simp only [C.lt, Bool.and_eq_true] at hl
    simp only [crel] at h ⊢
    obtain ⟨fs, cs, h1, h2, h3⟩ := h
    exact ⟨fs, cs, h1, crels_drop a _ h2 hl.1, crels_drop b _ h3 hl.2⟩
  | .un, _, _, _ => by simp only [crel]
theorem crels_drop : ∀ (cs : List C) (us : List Value), crels g w σ cs us → C.lts n cs = true → crels (g.drop n w) w (σ.take n) cs us
  | [], us, h, _ => by simpa only [crels] using h
  | c :: cs, us, h, hl => by
    simp only [C.lts, Bool.and_eq_true] at hl
    simp only [crels] at h ⊢
    obtain ⟨v, vs, h1, h2, h3⟩ := h
    exact ⟨v, vs, h1, crel_drop c v h2 hl.1, crels_drop cs vs h3 hl.2⟩
end
mutual
theorem vrel_drop : ∀ (c : V) (u : Value), vrel g w σ c u → c.lt n = true → vrel (g.drop n w) w (σ.take n) c u
  | .one c, u, h, hl => by
    simp only [V.lt] at hl
    simp only [vrel] at h ⊢
    exact crel_drop c u h hl
  | .agg cs, u, h, hl => by
    simp only [V.lt] at hl
    simp only [vrel] at h ⊢
    obtain ⟨us, h1, h2⟩ := h
    exact ⟨us, h1, crels_drop cs _ h2 hl⟩
  | .tup vs, u, h, hl => by
    simp only [V.lt] at hl
    simp only [vrel] at h ⊢
    obtain ⟨us, h1, h2⟩ := h
    exact ⟨us, h1, vrels_drop vs _ h2 hl⟩
theorem vrels_drop : ∀ (vs : List V) (us : List Value), vrels g w σ vs us → V.lts n vs = true → vrels (g.drop n w) w (σ.take n) vs us
  | [], us, h, _ => by simpa only [vrels] using h
  | c :: cs, us, h, hl => by
    simp only [V.lts, Bool.and_eq_true] at hl
    simp only [vrels] at h ⊢
    obtain ⟨v, vs, h1, h2, h3⟩ := h
    exact ⟨v, vs, h1, vrel_drop c v h2 hl.1, vrels_drop cs vs h3 hl.2⟩
end

theorem obs_lt {os : List Ob} (h : Obs.lt n os = true) : ∀ {i : Nat} {o : Ob}, os[i]? = some o → o.lt n = true := by
  induction os with
  | nil => intro i o h; simp at h
  | cons x xs ih =>
    simp only [Obs.lt, Bool.and_eq_true] at h
    intro i o hi
    cases i with
    | zero => simp at hi; subst hi; exact h.1
    | succ i => exact ih h.2 (by simpa using hi)
theorem mrel_drop : ∀ {es : List (Int × V)} {ents : List MapEntry}, mrel g w σ es ents → C.ltm n es = true → mrel (g.drop n w) w (σ.take n) es ents
  | [], _, h, _ => h
  | x :: xs, _, h, hl => by
    simp only [C.ltm, Bool.and_eq_true] at hl
    obtain ⟨e, rest, h1, h2, h3, h4⟩ := h
    exact ⟨e, rest, h1, h2, vrel_drop _ _ h3 hl.1, mrel_drop h4 hl.2⟩
theorem ltm_mem : ∀ {es : List (Int × V)}, C.ltm n es = true ↔ ∀ e ∈ es, e.2.lt n = true
  | [] => by simp [C.ltm]
  | e :: es => by simp [C.ltm, ltm_mem (es := es)]
theorem mrelP_drop {es : List (Int × V)} {ents : List MapEntry} {clock : Nat} (h : mrelP g w σ es ents clock) (hl : C.ltm n es = true) : mrelP (g.drop n w) w (σ.take n) es ents clock := by
  have := mrelP_to (g' := g.drop n w) (w' := w) (σ' := σ.take n) h id (fun _ => rfl) (fun es' hp h => by
    rw [List.map_id]
    exact mrel_drop h (ltm_mem.2 fun e he => ltm_mem.1 hl e (hp.mem_iff.1 he)))
  rwa [List.map_id] at this

theorem rel_drop (R : Rel g w σ) (hl : Obs.lt n (σ.take n) = true) : Rel (g.drop n w) w (σ.take n) := by
  refine ⟨fun b o h => h.elim (R.nb b o) fun h => h.1, fun id o ho => ?_⟩
  have hid : id < n := by
    have := lt_of_some ho
    rw [List.length_take] at this
    omega
  have hlt := obs_lt hl ho
  rw [take_get hid] at ho
  have hor := R.ob id o ho
  have how : ∀ b i, g.ow b = .ob i → i < n → (g.drop n w).ow b = .ob i := fun b i h hi => by simp [G.drop, Ow.cut, h, hi]
  have hno : ∀ b i, g.ow b = .ob i → i < n → (∀ o, ¬ g.N b o) → ∀ o, ¬ (g.drop n w).N b o := fun b i h hi hN o hno => by
    rcases hno with hno | ⟨_, j, hj, hno⟩
    · exact hN o hno
    · rw [h] at hno; injection hno with hno; omega
  cases o with
  | cells ver sz es =>
    intro hne
    obtain ⟨h1, h2, arr, t, h3, h4, h5⟩ := hor hne
    refine ⟨how _ _ h1 hid, hno _ _ h1 hid h2, arr, t, h3, h4, fun i e hi => ⟨(h5 i e hi).1, fun j c hc => ?_⟩⟩
    obtain ⟨u, k1, k2, k3⟩ := (h5 i e hi).2 j c hc
    simp only [Ob.lt] at hlt
    exact ⟨u, k1, crel_drop c u k2 (lts_mem.1 (ltss_mem.1 hlt e (List.mem_of_getElem? hi)) c (List.mem_of_getElem? hc)), k3⟩
  | mp es =>
    obtain ⟨h1, h2, ents, clock, h3, h4⟩ := hor
    exact ⟨how _ _ h1 hid, hno _ _ h1 hid h2, ents, clock, h3, mrelP_drop h4 (by simpa [Ob.lt] using hlt)⟩
  | tok sz fr =>
    intro k m hm
    rcases hor k m hm with h | ⟨b, o, c, arr, t, h1, h2, h3, h4, h5, h6, h7⟩
    · exact .inl h
    · refine .inr ⟨b, o, c, arr, t, h1, h2, h3, by simp [G.drop, Ow.cut, h4, hid], h5, h6, fun o' ho' => ?_⟩
      rcases ho' with ho' | ⟨_, j, _, ho'⟩
      · exact h7 o' ho'
      · rw [h4] at ho'; cases ho'

theorem ext_drop {g0 : G} {w0 : World} {σ0 : Store} (H : Ext g0 w0 σ0 g w σ) (hc : Clean g0 σ0.length) (hn : σ0.length ≤ n) : Ext g0 w0 σ0 (g.drop n w) w (σ.take n) where
  os := H.os
  tape := H.tape
  output := H.output
  size := H.size
  keeps := H.keeps.trans drop_keeps
  len := by have := H.len; rw [List.length_take]; omega
  shape := fun id ver sz len h => by
    have hid : id < n := by obtain ⟨es, h1, _⟩ := shapeOf_some h; have := lt_of_some h1; omega
    rw [shape_take hid]
    exact H.shape id ver sz len h
  map := fun id es h => by
    have hid : id < n := by have := lt_of_some h; omega
    rw [take_get hid]
    exact H.map id es h
  tok := fun t k m h => by
    have hid : t < n := by obtain ⟨_, _, h1, _⟩ := frOf_some h; have := lt_of_some h1; omega
    rw [fr_take hid]
    exact H.tok t k m h
  tsz := fun t sz h => by
    have hid : t < n := by obtain ⟨_, h1⟩ := tokSz_some h; have := lt_of_some h1; omega
    rw [tsz_take hid]
    exact H.tsz t sz h
  ow := fun b hb => by
    show (g.ow b).cut n = _
    rw [H.ow b hb]
    exact Ow.cut_cut hn _ (hc b)
  new := fun b o h hb ho => by
    rcases h with h | ⟨_, id, _, h⟩
    · exact H.new b o h hb ho
    · rw [H.ow b hb, ho] at h; cases h
  frame := H.frame

/-! ### At the door of a call -/
/-- Owners that are no longer there are forgotten. -/
def G.clean (g : G) (n : Nat) : G :=
  { g with ow := fun b => (g.ow b).cut n }
theorem clean_clean (g : G) (n : Nat) : Clean (g.clean n) n := fun b => Ow.cut_idem n _
mutual
theorem crel_same {g' : G} (h1 : g'.ρ = g.ρ) (h2 : g'.tv = g.tv) (h3 : g'.N = g.N) : ∀ (c : C) (u : Value), crel g w σ c u → crel g' w σ c u
  | .f x, u, h => by simp only [crel] at h ⊢; rw [h3]; exact h
  | .ap t k xs, u, h => by simp only [crel] at h ⊢; rw [h3, h2]; exact h
  | .ptr id ver i off, u, h => by simp only [crel] at h ⊢; rw [h1]; exact h
  | .fp cs off, u, h => by simp only [crel] at h ⊢; rw [h3]; exact h
  | .own id ver lo m, u, h => by simp only [crel] at h ⊢; rw [h1]; exact h
  | .map id, u, h => by simp only [crel] at h ⊢; rw [h1]; exact h
  | .fn f a b, u, h => by
    simp only [crel] at h ⊢
    obtain ⟨fs, cs, k1, k2, k3⟩ := h
    exact ⟨fs, cs, k1, crels_same h1 h2 h3 a _ k2, crels_same h1 h2 h3 b _ k3⟩
  | .un, _, _ => by simp only [crel]
theorem crels_same {g' : G} (h1 : g'.ρ = g.ρ) (h2 : g'.tv = g.tv) (h3 : g'.N = g.N) : ∀ (cs : List C) (us : List Value), crels g w σ cs us → crels g' w σ cs us
  | [], us, h => by simpa only [crels] using h
  | c :: cs, us, h => by
    simp only [crels] at h ⊢
    obtain ⟨v, vs, k1, k2, k3⟩ := h
    exact ⟨v, vs, k1, crel_same h1 h2 h3 c v k2, crels_same h1 h2 h3 cs vs k3⟩
end
mutual
theorem vrel_same {g' : G} (h1 : g'.ρ = g.ρ) (h2 : g'.tv = g.tv) (h3 : g'.N = g.N) : ∀ (c : V) (u : Value), vrel g w σ c u → vrel g' w σ c u
  | .one c, u, h => by simp only [vrel] at h ⊢; exact crel_same h1 h2 h3 c u h
  | .agg cs, u, h => by
    simp only [vrel] at h ⊢
    obtain ⟨us, k1, k2⟩ := h
    exact ⟨us, k1, crels_same h1 h2 h3 cs _ k2⟩
  | .tup vs, u, h => by
    simp only [vrel] at h ⊢
    obtain ⟨us, k1, k2⟩ := h
    exact ⟨us, k1, vrels_same h1 h2 h3 vs _ k2⟩
theorem vrels_same {g' : G} (h1 : g'.ρ = g.ρ) (h2 : g'.tv = g.tv) (h3 : g'.N = g.N) : ∀ (vs : List V) (us : List Value), vrels g w σ vs us → vrels g' w σ vs us
  | [], us, h => by simpa only [vrels] using h
  | c :: cs, us, h => by
    simp only [vrels] at h ⊢
    obtain ⟨v, vs, k1, k2, k3⟩ := h
    exact ⟨v, vs, k1, vrel_same h1 h2 h3 c v k2, vrels_same h1 h2 h3 cs vs k3⟩
end
theorem mrel_same {g' : G} (h1 : g'.ρ = g.ρ) (h2 : g'.tv = g.tv) (h3 : g'.N = g.N) : ∀ {es : List (Int × V)} {ents : List MapEntry}, mrel g w σ es ents → mrel g' w σ es ents
  | [], _, h => h
  | x :: xs, _, h => by
    obtain ⟨e, rest, k1, k2, k3, k4⟩ := h
    exact ⟨e, rest, k1, k2, vrel_same h1 h2 h3 _ _ k3, mrel_same h1 h2 h3 k4⟩
theorem mrelP_same {g' : G} (h1 : g'.ρ = g.ρ) (h2 : g'.tv = g.tv) (h3 : g'.N = g.N) {es : List (Int × V)} {ents : List MapEntry} {clock : Nat} (h : mrelP g w σ es ents clock) : mrelP g' w σ es ents clock := by
  have := mrelP_to (g' := g') (w' := w) (σ' := σ) h id (fun _ => rfl) (fun es' hp h => by
    rw [List.map_id]
    exact mrel_same h1 h2 h3 h)
  rwa [List.map_id] at this
/-- Other owners of blocks that no object has. -/
theorem rel_ow {g' : G} (R : Rel g w σ) (h1 : g'.ρ = g.ρ) (h2 : g'.tv = g.tv) (h3 : g'.N = g.N) (hob : ∀ b id, id < σ.length → g.ow b = .ob id → g'.ow b = .ob id) (htk : ∀ b t k, t < σ.length → g.ow b = .tk t k → g'.ow b = .tk t k) : Rel g' w σ := by
  refine ⟨by rw [h3]; exact R.nb, fun id o ho => ?_⟩
  have hlt := lt_of_some ho
  have hor := R.ob id o ho
  cases o with
  | cells ver sz es =>
    intro hne
    obtain ⟨k1, k2, arr, t, k3, k4, k5⟩ := hor hne
    rw [h1, h3]
    refine ⟨hob _ _ hlt k1, k2, arr, t, k3, k4, fun i e hi => ⟨(k5 i e hi).1, fun j c hc => ?_⟩⟩
    obtain ⟨u, m1, m2, m3⟩ := (k5 i e hi).2 j c hc
    exact ⟨u, m1, crel_same h1 h2 h3 c u m2, m3⟩
  | mp es =>
    obtain ⟨k1, k2, ents, clock, k3, k4⟩ := hor
    unfold orel
    rw [h1, h3]
    exact ⟨hob _ _ hlt k1, k2, ents, clock, k3, mrelP_same h1 h2 h3 k4⟩
  | tok sz fr =>
    intro k m hm
    rw [h2, h3]
    rcases hor k m hm with h | ⟨b, o, c, arr, t, k1, k2, k3, k4, k5⟩
    · exact .inl h
    · exact .inr ⟨b, o, c, arr, t, k1, k2, k3, htk _ _ _ hlt k4, k5⟩
theorem rel_clean (R : Rel g w σ) : Rel (g.clean σ.length) w σ :=
  rel_ow R rfl rfl rfl (fun b id hid h => by simp [G.clean, Ow.cut, h, hid]) (fun b t k ht h => by simp [G.clean, Ow.cut, h, ht])
/-- Back to the caller's owners. -/
def G.under (g0 : G) (w0 : World) (g : G) : G := { g with ow := fun b => if b < w0.heap.size then g0.ow b else g.ow b }
theorem ext_under {w' : World} {σ' : Store} {g' : G} (H : Ext (g.clean σ.length) w σ g' w' σ') : Ext g w σ (g.under w g') w' σ' where
  os := H.os
  tape := H.tape
  output := H.output
  size := H.size
  keeps := H.keeps
  len := H.len
  shape := H.shape
  map := H.map
  tok := H.tok
  tsz := H.tsz
  ow := fun b hb => by
    show (if b < w.heap.size then g.ow b else g'.ow b) = _
    rw [if_pos hb]
  new := fun b o h hb ho => H.new b o h hb (by simp [G.clean, Ow.cut, ho])
  frame := fun b hb ho => H.frame b hb (by simp [G.clean, Ow.cut, ho])
theorem rel_under {w' : World} {σ' : Store} {g' : G} (H : Ext (g.clean σ.length) w σ g' w' σ') (R : Rel g' w' σ') : Rel (g.under w g') w' σ' := by
  have key : ∀ b, b < w.heap.size → g'.ow b ≠ .no → g.ow b = g'.ow b := fun b hb hne => by
    have := H.ow b hb
    change g'.ow b = (g.ow b).cut σ.length at this
    rw [this] at hne ⊢
    cases h : g.ow b with
    | no => rfl
    | ob id =>
      rw [h] at hne
      simp only [Ow.cut] at hne ⊢
      split
      · rfl
      · rename_i hn; rw [if_neg hn] at hne; exact absurd rfl hne
    | tk t k =>
      rw [h] at hne
      simp only [Ow.cut] at hne ⊢
      split
      · rfl
      · rename_i hn; rw [if_neg hn] at hne; exact absurd rfl hne
  refine rel_ow (g' := g.under w g') R rfl rfl rfl (fun b id hid h => ?_) (fun b t k ht h => ?_)
  · show (if b < w.heap.size then g.ow b else g'.ow b) = _
    split
    · rw [key b (by assumption) (by rw [h]; simp), h]
    · exact h
  · show (if b < w.heap.size then g.ow b else g'.ow b) = _
    split
    · rw [key b (by assumption) (by rw [h]; simp), h]
    · exact h
end
end Go.A

/- Calls that get a store of their own. -/
namespace Go.A
section
variable {g : G} {w : World} {σ : Store} {n : Nat}

/-- A row, from now on by value. -/
theorem own_frozen (R : Rel g w σ) {N' : Cells} (hN : ∀ b o, g.N b o → N' b o) {id ver lo n : Nat} (hb : ∀ o, N' (g.ρ id) o ∨ ¬ (∃ sz es, σ[id]? = some (.cells ver sz es) ∧ es ≠ [])) {xs : List (List Fz)} {u : Value} (h : (σ[id]?).bind (Ob.frz ver lo n) = some xs) (hv : vrel g w σ (.one (.own id ver lo n)) u) : rep w N' (.sl xs) u := by
  rw [Option.bind_eq_some_iff] at h
  obtain ⟨ob, h1, h2⟩ := h
  unfold Ob.frz at h2
  split at h2
  · rename_i ver' sz es
    split at h2
    · rename_i hver
      subst hver
      obtain ⟨a, c, e1, e2, e3, e4⟩ := vrel_own hv h1
      obtain ⟨hl, hg⟩ := frzRows_get h2
      simp only [rep]
      by_cases hes : es = []
      · subst hes
        have := e3 rfl
        have hn : n = 0 := by omega
        subst hn
        have hx : xs = [] := List.eq_nil_of_length_eq_zero (by rw [hl]; simp)
        subst hx
        exact ⟨a, c, sz, e1, by simp, by simp only [lenAll], .inl rfl⟩
      · obtain ⟨f1, f2, arr, t, f3, f4⟩ := e4 fun h => hes (List.eq_nil_of_length_eq_zero h)
        obtain ⟨_, _, arr', t', m1, m2, m3⟩ := R.ob id _ h1 hes
        have hxn : xs.length = n := by rw [hl]; simp; omega
        have hsub : ∀ i e, ((es.drop lo).take n)[i]? = some e → es[lo + i]? = some e := fun i e hi => by
          rw [List.getElem?_take] at hi
          split at hi
          · rwa [List.getElem?_drop] at hi
          · cases hi
        refine ⟨a, c, sz, by rw [hxn]; exact e1, by omega, lenAll_of fun e he => ?_, ?_⟩
        · obtain ⟨i, hi⟩ := List.mem_iff_getElem?.1 he
          obtain ⟨e', k1, k2⟩ := hg i e hi
          rw [(frzRow_get k2).1]
          exact (m3 _ e' (hsub i e' k1)).1
        · rcases Nat.eq_zero_or_pos n with h0 | h0
          · exact .inl (List.eq_nil_of_length_eq_zero (by omega))
          · refine .inr ⟨g.ρ id, lo * sz, f2 (by omega), repRows_of fun i e hi => repRow_of fun j x hj => ?_⟩
            obtain ⟨e', k1, k2⟩ := hg i e hi
            obtain ⟨cc, k3, k4⟩ := (frzRow_get k2).2 j x hj
            obtain ⟨u', q1, q2, q3⟩ := (m3 _ e' (hsub i e' k1)).2 j cc k3
            refine ⟨u', (hb _).resolve_right fun hx => hx ⟨sz, es, h1, hes⟩, ?_, rep_mono (fun b o h => ⟨hN b o h, rfl⟩) x u' (frzC_sound k4 q2)⟩
            rw [cell_at m1, show lo * sz + i * sz + j = (lo + i) * sz + j from by rw [Nat.add_mul]]
            exact q1
    · cases h2
  · cases h2

/-- What a call of its own store sees. -/
def G.inn (g : G) (lent : Bool) (w : World) : G := ⟨fun _ => 0, fun _ _ => undef, fun _ => .no, fun b o => g.N b o ∨ (lent = true ∧ b < w.heap.size)⟩
theorem rel_inn (R : Rel g w σ) (lent : Bool) : Rel (g.inn lent w) w [] := ⟨fun b o h => h.elim (R.nb b o) fun h => h.2, fun id o h => by simp at h⟩
theorem inn_keeps (lent : Bool) : Keeps w w g.N (g.inn lent w).N := fun _ _ h => ⟨.inl h, rfl⟩

theorem frzRow_rel {N' : Cells} (H : Keeps w w g.N N') {g' : G} {σ' : Store} (hg : g'.N = N') : ∀ {cs : List C} {xs : List Fz} {us : List Value}, frzRow cs = some xs → crels g w σ cs us → crels g' w σ' (xs.map C.f) us
  | [], xs, us, h, hr => by
    simp only [frzRow, Option.some.injEq] at h
    subst h
    simpa only [List.map_nil, crels] using hr
  | c :: cs, xs, us, h, hr => by
    simp only [frzRow] at h
    obtain ⟨y, z, h1, h2, rfl⟩ := ocons_some h
    simp only [crels] at hr
    obtain ⟨v, vs, rfl, k1, k2⟩ := hr
    simp only [List.map_cons, crels]
    exact ⟨v, vs, rfl, by simp only [crel]; rw [hg]; exact rep_mono H y v (frzC_sound h1 k1), frzRow_rel H hg h2 k2⟩

theorem frzV_sound (R : Rel g w σ) {lent : Bool} {v v' : V} {u : Value} (h : frzV σ v = some v') (hl : isOwn v = true → lent = true) (hv : vrel g w σ v u) : vrel (g.inn lent w) w [] v' u := by
  unfold frzV at h
  split at h
  · rename_i id ver lo n
    rw [Option.map_eq_some_iff] at h
    obtain ⟨xs, h, rfl⟩ := h
    have hlent := hl rfl
    simp only [vsl, vrel, crel]
    refine own_frozen R (fun b o h => .inl h) (fun o => ?_) h hv
    by_cases hx : ∃ sz es, σ[id]? = some (.cells ver sz es) ∧ es ≠ []
    · obtain ⟨sz, es, k1, k2⟩ := hx
      obtain ⟨_, _, arr, t, k3, _⟩ := R.ob id _ k1 k2
      exact .inl (.inr ⟨hlent, (Array.getElem?_eq_some_iff.1 k3).1⟩)
    · exact .inr hx
  · injection h with h
    subst h
    simp only [vrel, crel] at hv ⊢
    obtain ⟨fs, cs, h1, h2, h3⟩ := hv
    exact ⟨fs, cs, h1, by simpa only [crels] using h2, by simpa only [crels] using h3⟩
  · rw [Option.map_eq_some_iff] at h
    obtain ⟨x, h, rfl⟩ := h
    simp only [vrel] at hv
    simp only [vf, vrel, crel]
    exact rep_mono (inn_keeps lent) x u (frzC_sound h hv)
  · rw [Option.map_eq_some_iff] at h
    obtain ⟨xs, h, rfl⟩ := h
    simp only [vrel] at hv
    obtain ⟨us, h1, h2⟩ := hv
    simp only [vagg, vrel]
    exact ⟨us, h1, frzRow_rel (inn_keeps lent) rfl h h2⟩
  · cases h
theorem frzVs_sound (R : Rel g w σ) {lent : Bool} : ∀ {vs vs' : List V} {us : List Value}, frzVs σ vs = some vs' → (vs.any isOwn = true → lent = true) → vrels g w σ vs us → vrels (g.inn lent w) w [] vs' us
  | [], vs', us, h, _, hv => by
    simp only [frzVs, Option.some.injEq] at h
    subst h
    simpa only [vrels] using hv
  | v :: vs, vs', us, h, hl, hv => by
    simp only [frzVs] at h
    obtain ⟨y, z, h1, h2, rfl⟩ := ocons_some h
    simp only [vrels] at hv ⊢
    obtain ⟨x, xs, rfl, k1, k2⟩ := hv
    simp only [List.any_cons, Bool.or_eq_true] at hl
    exact ⟨x, xs, rfl, frzV_sound R h1 (fun h => hl (.inl h)) k1, frzVs_sound R h2 (fun h => hl (.inr h)) k2⟩

/-! ### And back -/
def Ow.shift (n : Nat) : Ow → Ow
  | .no => .no
  | .ob id => .ob (id + n)
  | .tk t k => .tk (t + n) k
def G.out (g : G) (w : World) (n : Nat) (keep : Prop) (g' : G) : G where
  ρ := fun id => if id < n then g.ρ id else g'.ρ (id - n)
  tv := fun t k => if t < n then g.tv t k else g'.tv (t - n) k
  ow := fun b => if b < w.heap.size then g.ow b else (g'.ow b).shift n
  N := fun b o => g.N b o ∨ (w.heap.size ≤ b ∧ keep ∧ g'.N b o)

section
variable {lent : Bool} {keep : Prop} {g' : G} {w' : World} {σ' : Store}
theorem out_ρ_old {id : Nat} (h : id < n) : (g.out w n keep g').ρ id = g.ρ id := by simp [G.out, h]
theorem out_ρ_new {id : Nat} : (g.out w n keep g').ρ (id + n) = g'.ρ id := by
  show (if id + n < n then _ else g'.ρ (id + n - n)) = _
  rw [if_neg (by omega), Nat.add_sub_cancel]
theorem out_tv_old {t k : Nat} (h : t < n) : (g.out w n keep g').tv t k = g.tv t k := by simp [G.out, h]
theorem out_tv_new {t k : Nat} : (g.out w n keep g').tv (t + n) k = g'.tv t k := by
  show (if t + n < n then _ else g'.tv (t + n - n) k) = _
  rw [if_neg (by omega), Nat.add_sub_cancel]
theorem out_ow_old {b : Nat} (h : b < w.heap.size) : (g.out w n keep g').ow b = g.ow b := by simp [G.out, h]
theorem out_ow_new {b : Nat} (h : ¬ b < w.heap.size) : (g.out w n keep g').ow b = (g'.ow b).shift n := by simp [G.out, h]

theorem ext_out (R : Rel g w σ) (H : Ext (g.inn lent w) w [] g' w' σ') (os : List Ob) : Ext g w σ (g.out w σ.length keep g') w' (σ ++ os) where
  os := H.os
  tape := H.tape
  output := H.output
  size := H.size
  keeps := fun b o h => ⟨.inl h, by
    unfold World.cell?
    rw [H.frame b (R.nb b o h) rfl]⟩
  len := by simp
  shape := fun id ver sz len h => by
    obtain ⟨es, h1, _⟩ := shapeOf_some h
    have hlt := lt_of_some h1
    refine .inl ⟨by unfold shapeOf; rw [List.getElem?_append_left hlt]; exact h, out_ρ_old hlt, fun _ arr t ha => ⟨arr, ?_, rfl⟩⟩
    rw [H.frame _ (Array.getElem?_eq_some_iff.1 ha).1 rfl]
    exact ha
  map := fun id es h => ⟨out_ρ_old (lt_of_some h), es, by rw [List.getElem?_append_left (lt_of_some h)]; exact h⟩
  tok := fun t k m h => by
    obtain ⟨sz, fr, h1, h2⟩ := frOf_some h
    exact ⟨m, frOf_of (by rw [List.getElem?_append_left (lt_of_some h1)]; exact h1) h2, Nat.le_refl _, fun _ => out_tv_old (lt_of_some h1)⟩
  tsz := fun t sz h => by
    obtain ⟨fr, h1⟩ := tokSz_some h
    exact tokSz_of (fr := fr) (by rw [List.getElem?_append_left (lt_of_some h1)]; exact h1)
  ow := fun b hb => out_ow_old hb
  new := fun b o h hb _ => h.elim id fun h => by omega
  frame := fun b hb _ => H.frame b hb rfl

theorem out_keeps (hk : keep) (hlent : lent = false) (H : Ext (g.inn lent w) w [] g' w' σ') : Keeps w' w' g'.N (g.out w n keep g').N := fun b o h => ⟨by
  by_cases hb : b < w.heap.size
  · have := H.new b o h hb rfl
    rcases this with h1 | h1
    · exact .inl h1
    · rw [hlent] at h1; cases h1.1
  · exact .inr ⟨by omega, hk, h⟩, rfl⟩

theorem shift_get (os : List Ob) {i : Nat} {o : Ob} (h : σ'[i]? = some o) : (σ ++ σ'.map (Ob.shift σ.length))[i + σ.length]? = some (o.shift σ.length) := by
  rw [List.getElem?_append_right (by omega), Nat.add_sub_cancel, List.getElem?_map, h]
  rfl
theorem shift_shape {id ver sz len : Nat} (h : shapeOf σ' id = some (ver, sz, len)) : shapeOf (σ ++ σ'.map (Ob.shift σ.length)) (id + σ.length) = some (ver, sz, len) := by
  obtain ⟨es, h1, h2⟩ := shapeOf_some h
  rw [shapeOf_of (shift_get [] h1)]
  simp [h2]
theorem shift_fr {t k m : Nat} (h : frOf σ' t k = some m) : frOf (σ ++ σ'.map (Ob.shift σ.length)) (t + σ.length) k = some m := by
  obtain ⟨sz, fr, h1, h2⟩ := frOf_some h
  exact frOf_of (shift_get [] h1) h2
theorem shift_tsz {t sz : Nat} (h : tokSz σ' t = some sz) : tokSz (σ ++ σ'.map (Ob.shift σ.length)) (t + σ.length) = some sz := by
  obtain ⟨fr, h1⟩ := tokSz_some h
  exact tokSz_of (shift_get [] h1)

mutual
theorem crel_shift (hk : keep) (hlent : lent = false) (H : Ext (g.inn lent w) w [] g' w' σ') : ∀ (c : C) (u : Value), crel g' w' σ' c u → crel (g.out w σ.length keep g') w' (σ ++ σ'.map (Ob.shift σ.length)) (c.shift σ.length) u
  | .f x, u, h => by
    simp only [C.shift, crel] at h ⊢
    exact rep_mono (out_keeps hk hlent H) x u h
  | .ap t k xs, u, h => by
    simp only [C.shift, crel] at h ⊢
    obtain ⟨h1, m, h2, h3, h4, sz, h5, h6⟩ := h
    exact ⟨rep_mono (out_keeps hk hlent H) _ u h1, m, shift_fr h2, h3, by rw [out_tv_new]; exact h4, sz, shift_tsz h5, h6⟩
  | .ptr id ver i off, u, h => by
    simp only [C.shift, crel] at h ⊢
    obtain ⟨v0, sz, len, h1, h2⟩ := h
    exact ⟨v0, sz, len, shift_shape h1, by rw [out_ρ_new]; exact h2⟩
  | .fp cs off, u, h => by
    simp only [C.shift, crel] at h ⊢
    obtain ⟨b, o, h1, h2⟩ := h
    exact ⟨b, o, h1, repRow_mono (out_keeps hk hlent H) cs b o h2⟩
  | .own id ver lo m, u, h => by
    simp only [C.shift, crel] at h ⊢
    obtain ⟨v0, sz, len, h1, h2⟩ := h
    exact ⟨v0, sz, len, shift_shape h1, by rw [out_ρ_new]; exact h2⟩
  | .map id, u, h => by
    simp only [C.shift, crel] at h ⊢
    obtain ⟨⟨es, h1⟩, h2⟩ := h
    exact ⟨⟨_, shift_get [] h1⟩, by rw [out_ρ_new]; exact h2⟩
  | .fn f a b, u, h => by
    simp only [C.shift, crel] at h ⊢
    obtain ⟨fs, cs, h1, h2, h3⟩ := h
    exact ⟨fs, cs, h1, crels_shift hk hlent H a _ h2, crels_shift hk hlent H b _ h3⟩
  | .un, _, _ => by simp only [C.shift, crel]
theorem crels_shift (hk : keep) (hlent : lent = false) (H : Ext (g.inn lent w) w [] g' w' σ') : ∀ (cs : List C) (us : List Value), crels g' w' σ' cs us → crels (g.out w σ.length keep g') w' (σ ++ σ'.map (Ob.shift σ.length)) (C.shifts σ.length cs) us
  | [], us, h => by simpa only [C.shifts, crels] using h
  | c :: cs, us, h => by
    simp only [C.shifts, crels] at h ⊢
    obtain ⟨v, vs, h1, h2, h3⟩ := h
    exact ⟨v, vs, h1, crel_shift hk hlent H c v h2, crels_shift hk hlent H cs vs h3⟩
end
mutual
theorem vrel_shift (hk : keep) (hlent : lent = false) (H : Ext (g.inn lent w) w [] g' w' σ') : ∀ (c : V) (u : Value), vrel g' w' σ' c u → vrel (g.out w σ.length keep g') w' (σ ++ σ'.map (Ob.shift σ.length)) (c.shift σ.length) u
  | .one c, u, h => by
    simp only [V.shift, vrel] at h ⊢
    exact crel_shift hk hlent H c u h
  | .agg cs, u, h => by
    simp only [V.shift, vrel] at h ⊢
    obtain ⟨us, h1, h2⟩ := h
    exact ⟨us, h1, crels_shift hk hlent H cs _ h2⟩
  | .tup vs, u, h => by
    simp only [V.shift, vrel] at h ⊢
    obtain ⟨us, h1, h2⟩ := h
    exact ⟨us, h1, vrels_shift hk hlent H vs _ h2⟩
theorem vrels_shift (hk : keep) (hlent : lent = false) (H : Ext (g.inn lent w) w [] g' w' σ') : ∀ (vs : List V) (us : List Value), vrels g' w' σ' vs us → vrels (g.out w σ.length keep g') w' (σ ++ σ'.map (Ob.shift σ.length)) (V.shifts σ.length vs) us
  | [], us, h => by simpa only [V.shifts, vrels] using h
  | c :: cs, us, h => by
    simp only [V.shifts, vrels] at h ⊢
    obtain ⟨v, vs, h1, h2, h3⟩ := h
    exact ⟨v, vs, h1, vrel_shift hk hlent H c v h2, vrels_shift hk hlent H cs vs h3⟩
end
theorem shifts_get {n : Nat} : ∀ {cs : List C} {j : Nat} {c : C}, (C.shifts n cs)[j]? = some c → ∃ c', cs[j]? = some c' ∧ c = c'.shift n
  | [], j, c, h => by simp [C.shifts] at h
  | x :: cs, j, c, h => by
    cases j with
    | zero => simp [C.shifts] at h; exact ⟨x, by simp, h.symm⟩
    | succ j => simpa using shifts_get (cs := cs) (by simpa [C.shifts] using h)
theorem shifts_length {n : Nat} : ∀ {cs : List C}, (C.shifts n cs).length = cs.length
  | [] => rfl
  | x :: cs => by simp [C.shifts, shifts_length (cs := cs)]
theorem mrel_shift (hk : keep) (hlent : lent = false) (H : Ext (g.inn lent w) w [] g' w' σ') : ∀ {es : List (Int × V)} {ents : List MapEntry}, mrel g' w' σ' es ents → mrel (g.out w σ.length keep g') w' (σ ++ σ'.map (Ob.shift σ.length)) (es.map fun e => (e.1, e.2.shift σ.length)) ents
  | [], _, h => h
  | x :: xs, _, h => by
    obtain ⟨e, rest, k1, k2, k3, k4⟩ := h
    exact ⟨e, rest, k1, k2, vrel_shift hk hlent H _ _ k3, mrel_shift hk hlent H k4⟩

theorem rel_out_old (R : Rel g w σ) (H : Ext (g.inn lent w) w [] g' w' σ') (R' : Rel g' w' σ') (os : List Ob) {id : Nat} {o : Ob} (ho : σ[id]? = some o) : orel (g.out w σ.length keep g') w' (σ ++ os) id o :=
  orel_keep (ext_out R H os) (out_ρ_old (lt_of_some ho)) (fun _ => out_tv_old (lt_of_some ho)) (fun b hb _ => ⟨H.frame b hb rfl, out_ow_old hb, fun o h => h.elim (fun h => h) fun h => by omega⟩) (R.ob id o ho)
theorem rel_out_nb (R : Rel g w σ) (H : Ext (g.inn lent w) w [] g' w' σ') (R' : Rel g' w' σ') : ∀ b o, (g.out w σ.length keep g').N b o → b < w'.heap.size := fun b o h =>
  h.elim (fun h => Nat.lt_of_lt_of_le (R.nb b o h) H.size) fun h => R'.nb b o h.2.2
theorem rel_out_nil (R : Rel g w σ) (H : Ext (g.inn lent w) w [] g' w' []) (R' : Rel g' w' []) : Rel (g.out w σ.length keep g') w' σ :=
  ⟨rel_out_nb R H R', fun id o ho => by simpa using rel_out_old (keep := keep) R H R' [] ho⟩

theorem rel_out (R : Rel g w σ) (hk : keep) (hlent : lent = false) (H : Ext (g.inn lent w) w [] g' w' σ') (R' : Rel g' w' σ') : Rel (g.out w σ.length keep g') w' (σ ++ σ'.map (Ob.shift σ.length)) := by
  refine ⟨rel_out_nb R H R', fun id o ho => ?_⟩
  by_cases hid : id < σ.length
  · rw [List.getElem?_append_left hid] at ho
    exact rel_out_old R H R' _ ho
  · rw [List.getElem?_append_right (by omega), List.getElem?_map, Option.map_eq_some_iff] at ho
    obtain ⟨o', ho', rfl⟩ := ho
    obtain ⟨j, rfl⟩ : ∃ j, id = j + σ.length := ⟨id - σ.length, by omega⟩
    rw [Nat.add_sub_cancel] at ho'
    have hor := R'.ob j o' ho'
    have hbig : ∀ b, g'.ow b ≠ .no → ¬ b < w.heap.size := fun b hne hb => hne (H.ow b hb)
    have hno : ∀ b, ¬ b < w.heap.size → (∀ o, ¬ g'.N b o) → ∀ o, ¬ (g.out w σ.length keep g').N b o := fun b hb hN o h => by
      rcases h with h | h
      · exact hb (R.nb b o h)
      · exact hN o h.2.2
    cases o' with
    | cells ver sz es =>
      intro hne
      have hne' : es ≠ [] := fun h => hne (by rw [h]; rfl)
      obtain ⟨h1, h2, arr, t, h3, h4, h5⟩ := hor hne'
      have hb := hbig _ (by rw [h1]; simp)
      rw [out_ρ_new]
      refine ⟨by rw [out_ow_new hb, h1]; rfl, hno _ hb h2, arr, t, h3, by simpa using h4, fun i e hi => ?_⟩
      rw [List.getElem?_map, Option.map_eq_some_iff] at hi
      obtain ⟨e', hi, rfl⟩ := hi
      refine ⟨by rw [shifts_length]; exact (h5 i e' hi).1, fun j c hc => ?_⟩
      obtain ⟨c', hc', rfl⟩ := shifts_get hc
      obtain ⟨u, k1, k2, k3⟩ := (h5 i e' hi).2 j c' hc'
      exact ⟨u, k1, crel_shift hk hlent H c' u k2, k3⟩
    | mp es =>
      obtain ⟨h1, h2, ents, clock, h3, h4⟩ := hor
      have hb := hbig _ (by rw [h1]; simp)
      show _ ∧ _
      rw [out_ρ_new]
      exact ⟨by rw [out_ow_new hb, h1]; rfl, hno _ hb h2, ents, clock, h3, mrelP_to h4 (fun e => (e.1, e.2.shift σ.length)) (fun _ => rfl) fun es' _ h => mrel_shift hk hlent H h⟩
    | tok sz fr =>
      intro k m hm
      rw [out_tv_new]
      rcases hor k m hm with h | ⟨b, o, c, arr, t, h1, h2, h3, h4, h5, h6, h7⟩
      · exact .inl h
      · have hb := hbig _ (by rw [h4]; simp)
        refine .inr ⟨b, o, c, arr, t, h1, h2, h3, by rw [out_ow_new hb, h4]; rfl, h5, h6, fun o' ho' => ?_⟩
        rcases ho' with ho' | ho'
        · exact absurd (R.nb _ _ ho') hb
        · exact h7 o' ho'.2.2

/-! What comes back out of an empty store. -/
mutual
theorem crel_back {w1 : World} {σ2 : Store} {g1 g2 : G} (hk : Keeps w1 w1 g1.N g2.N) : ∀ (c : C) (u : Value), crel g1 w1 [] c u → crel g2 w1 σ2 c u
  | .f x, u, h => by simp only [crel] at h ⊢; exact rep_mono hk x u h
  | .ap t k xs, u, h => by have := crel_lt _ u h; simp [C.lt] at this
  | .ptr id ver i off, u, h => by have := crel_lt _ u h; simp [C.lt] at this
  | .fp cs off, u, h => by
    simp only [crel] at h ⊢
    obtain ⟨b, o, h1, h2⟩ := h
    exact ⟨b, o, h1, repRow_mono hk cs b o h2⟩
  | .own id ver lo m, u, h => by have := crel_lt _ u h; simp [C.lt] at this
  | .map id, u, h => by have := crel_lt _ u h; simp [C.lt] at this
  | .fn f a b, u, h => by
    simp only [crel] at h ⊢
    obtain ⟨fs, cs, h1, h2, h3⟩ := h
    exact ⟨fs, cs, h1, crels_back hk a _ h2, crels_back hk b _ h3⟩
  | .un, _, _ => by simp only [crel]
theorem crels_back {w1 : World} {σ2 : Store} {g1 g2 : G} (hk : Keeps w1 w1 g1.N g2.N) : ∀ (cs : List C) (us : List Value), crels g1 w1 [] cs us → crels g2 w1 σ2 cs us
  | [], us, h => by simpa only [crels] using h
  | c :: cs, us, h => by
    simp only [crels] at h ⊢
    obtain ⟨v, vs, h1, h2, h3⟩ := h
    exact ⟨v, vs, h1, crel_back hk c v h2, crels_back hk cs vs h3⟩
end
mutual
theorem vrel_back {w1 : World} {σ2 : Store} {g1 g2 : G} (hk : Keeps w1 w1 g1.N g2.N) : ∀ (c : V) (u : Value), vrel g1 w1 [] c u → vrel g2 w1 σ2 c u
  | .one c, u, h => by simp only [vrel] at h ⊢; exact crel_back hk c u h
  | .agg cs, u, h => by
    simp only [vrel] at h ⊢
    obtain ⟨us, h1, h2⟩ := h
    exact ⟨us, h1, crels_back hk cs _ h2⟩
  | .tup vs, u, h => by
    simp only [vrel] at h ⊢
    obtain ⟨us, h1, h2⟩ := h
    exact ⟨us, h1, vrels_back hk vs _ h2⟩
theorem vrels_back {w1 : World} {σ2 : Store} {g1 g2 : G} (hk : Keeps w1 w1 g1.N g2.N) : ∀ (vs : List V) (us : List Value), vrels g1 w1 [] vs us → vrels g2 w1 σ2 vs us
  | [], us, h => by simpa only [vrels] using h
  | c :: cs, us, h => by
    simp only [vrels] at h ⊢
    obtain ⟨v, vs, h1, h2, h3⟩ := h
    exact ⟨v, vs, h1, vrel_back hk c v h2, vrels_back hk cs vs h3⟩
end
/-- Numbers, truth values, strings: the same anywhere. -/
theorem plain_cells {w1 w2 : World} {σ1 σ2 : Store} {g1 g2 : G} : ∀ {cs : List C} {us : List Value}, (cs.all fun c => match c with
    | .f (.lit _) => true
    | _ => false) = true → crels g1 w1 σ1 cs us → crels g2 w2 σ2 cs us
  | [], us, _, h => by simpa only [crels] using h
  | c :: cs, us, hp, h => by
    simp only [List.all_cons, Bool.and_eq_true] at hp
    simp only [crels] at h ⊢
    obtain ⟨v, vs, h1, h2, h3⟩ := h
    refine ⟨v, vs, h1, ?_, plain_cells hp.2 h3⟩
    have hp1 := hp.1
    split at hp1
    · simpa only [crel, rep] using h2
    · cases hp1
mutual
theorem vrel_plain {w1 w2 : World} {σ1 σ2 : Store} {g1 g2 : G} : ∀ (c : V) (u : Value), c.plain = true → vrel g1 w1 σ1 c u → vrel g2 w2 σ2 c u
  | .one c, u, hp, h => by
    cases c with
    | f x =>
      cases x with
      | lit v => simpa only [vrel, crel, rep] using h
      | sl xs => simp [V.plain] at hp
    | _ => simp [V.plain] at hp
  | .agg cs, u, hp, h => by
    simp only [V.plain] at hp
    simp only [vrel] at h ⊢
    obtain ⟨us, h1, h2⟩ := h
    exact ⟨us, h1, plain_cells hp h2⟩
  | .tup vs, u, hp, h => by
    simp only [V.plain] at hp
    simp only [vrel] at h ⊢
    obtain ⟨us, h1, h2⟩ := h
    exact ⟨us, h1, vrels_plain vs _ hp h2⟩
theorem vrels_plain {w1 w2 : World} {σ1 σ2 : Store} {g1 g2 : G} : ∀ (vs : List V) (us : List Value), V.plains vs = true → vrels g1 w1 σ1 vs us → vrels g2 w2 σ2 vs us
  | [], us, _, h => by simpa only [vrels] using h
  | c :: cs, us, hp, h => by
    simp only [V.plains, Bool.and_eq_true] at hp
    simp only [vrels] at h ⊢
    obtain ⟨v, vs, h1, h2, h3⟩ := h
    exact ⟨v, vs, h1, vrel_plain c v hp.1 h2, vrels_plain cs vs hp.2 h3⟩
end
end
end
end Go.A

/- Calls. -/
namespace Go.A

/-- A function that is entered when it is called. -/
def Enters (P : Program) (f : Nat) : Prop := ∃ fn c, P.funcs[f]? = some fn ∧ (fn.name == "runtime.NumGoroutine") = false ∧ fn.body = some c
/-- What the machine's call says is what the model's call does. -/
def Sound (P : Program) (C : Caller) : Prop := ∀ (f : Nat) (args : List V) (σ : Store) (v : V) (σ' : Store), C f args σ = some (v, σ') →
  Enters P f ∧ ∀ (g : G) (w : World) (us : List Value), Rel g w σ → vrels g w σ args us → Calls P f us.toArray w fun e w' => ∃ u g', e = .returned u ∧ vrel g' w' σ' v u ∧ Rel g' w' σ' ∧ Ext g w σ g' w' σ'

section
variable {P : Program} {κ : List Tmp} {loc : List (Option Tmp)} {nt : Nat} {g : G} {w : World} {r r' : R} {a : Act} {o : Go.Oper} {d : D} {next : Act → World → Prop} {Q : Exit → Act → World → Prop}

theorem vrels_append {σ : Store} : ∀ {vs vs' : List V} {us us' : List Value}, vrels g w σ vs us → vrels g w σ vs' us' → vrels g w σ (vs ++ vs') (us ++ us')
  | [], vs', us, us', h, h' => by
    simp only [vrels] at h
    subst h
    simpa using h'
  | v :: vs, vs', us, us', h, h' => by
    simp only [vrels, List.cons_append] at h ⊢
    obtain ⟨x, xs, rfl, h1, h2⟩ := h
    exact ⟨x, xs ++ us', rfl, h1, vrels_append h2 h'⟩
theorem vrels_one {σ : Store} : ∀ {cs : List C} {us : List Value}, crels g w σ cs us → vrels g w σ (cs.map V.one) us
  | [], us, h => by simpa only [crels, vrels, List.map_nil] using h
  | c :: cs, us, h => by
    simp only [crels] at h
    obtain ⟨v, vs, rfl, h1, h2⟩ := h
    simp only [List.map_cons, vrels]
    exact ⟨v, vs, rfl, by simp only [vrel]; exact h1, vrels_one h2⟩

theorem run_callFunc {f : Nat} (h : Enters P f) (args : Array Value) : (callFunc f args).run P w = .ok (.enter f args) w := by
  obtain ⟨fn, c, h1, h2, h3⟩ := h
  have h2' : ¬ fn.name = "runtime.NumGoroutine" := by simpa using h2
  simp [callFunc, h1, h2', h3]

theorem run_callOp {ct : Go.Call} {fv : Operand} (ho : o.op = .call ct) (hcal : ct.callee = .value fv) {f : Nat} {fs cs : Array Value} (hf : a.eval fv = .func (.func f) fs cs) (he : Enters P f) :
    (execOp a.eval o).run P w = .ok (.enter f (fs ++ ct.args.map a.eval ++ cs)) w := by
  unfold execOp
  simp only [ho, resolve, hcal, hf, Deferred.ofValue, invoke, Sem.run_bind, Sem.run_pure, Result.andThen_ok, run_callFunc he]

/-- Behind a call. -/
theorem wp_enter {f : Nat} {args : Array Value} (h : (execOp a.eval o).run P w = .ok (.enter f args) w) {R : Ending → World → Prop} (hc : Calls P f args w R) (k : ∀ e w', R e w' → ∃ u, e = .returned u ∧ next (a.put o.dst u) w') : o.wp P a w next Q := by
  unfold Oper.wp
  rw [h, Oper.upon_enter]
  refine Calls.mono hc fun e w' he => ?_
  obtain ⟨u, rfl, hn⟩ := k e w' he
  exact hn

theorem call_sound {Cf : Caller} (S : Sound P Cf) (R0 : Rel g w r.st) (L : Low r.base r.lim r.st) (F : Fr κ loc nt g w r a) {ct : Go.Call} {fv : Operand} {m : Mode} {fx : X} {xs : List X} (ho : o.op = .call ct) (hcal : ct.callee = .value fv) (hd : okD κ nt o.dst d = true)
    (hfx : okX κ loc fv fx = true) (hxs : okXs κ loc ct.args.toList xs = true) {r1 : R} (h : acall Cf r d m (r.gets xs) (r.get fx) = some r1) (k : Then κ (locOf o.dst d :: loc) nt g w r r1 (a.put o.dst) next) : o.wp P a w next Q := by
  have hf := F.get hfx
  have hargs := F.gets hxs
  unfold acall at h
  split at h
  · rename_i f first caps hfn
    rw [hfn] at hf
    simp only [vrel, crel] at hf
    obtain ⟨fs, cs, ef, h1, h2⟩ := hf
    have hall : vrels g w r.st (first.map V.one ++ (r.gets xs ++ caps.map V.one)) (fs.toList ++ (ct.args.toList.map a.eval ++ cs.toList)) := vrels_append (vrels_one h1) (vrels_append hargs (vrels_one h2))
    have harr : (fs ++ ct.args.map a.eval ++ cs) = (fs.toList ++ (ct.args.toList.map a.eval ++ cs.toList)).toArray := by
      apply Array.ext'
      simp
    cases m with
    | op =>
      simp only [Option.map_eq_some_iff] at h
      obtain ⟨⟨v, σ'⟩, hC, rfl⟩ := h
      obtain ⟨he, hs⟩ := S f _ _ v σ' hC
      refine wp_enter (run_callOp ho hcal ef he) (R := _) (by rw [harr]; exact hs g w _ R0 hall) fun e w' hR => ?_
      obtain ⟨u, g', rfl, hv, R1, H⟩ := hR
      refine ⟨u, rfl, ?_⟩
      have hL : Low r.base r.lim σ' := ⟨trivial⟩
      have hst : ({ r with st := σ' } : R).st = σ' := rfl
      have hF : Fr κ loc nt g' w' { r with st := σ' } a := F.ext (r' := { r with st := σ' }) H rfl rfl
      refine k g' w' _ ?_ ?_ ?_ (hF.put hd fun _ => hv) <;> rw [callOp, put_st]
      · exact H
      · exact R1
      · exact hL
    | cl =>
      simp only at h
      rw [Option.bind_eq_some_iff] at h
      obtain ⟨⟨v, σ'⟩, hC, h⟩ := h
      rw [Option.bind_eq_some_iff] at hC
      obtain ⟨as, hfz, hC⟩ := hC
      generalize hlent : (first.map V.one ++ (r.gets xs ++ caps.map V.one)).any isOwn = lent at h
      unfold callCl at h
      split at h
      · rename_i hc
        obtain ⟨hc1, hc2⟩ := hc
        have hσ : σ' = [] := List.eq_nil_of_length_eq_zero hc1
        subst hσ
        injection h with h
        subst h
        obtain ⟨he, hs⟩ := S f as [] v [] hC
        refine wp_enter (run_callOp ho hcal ef he) (R := _) (by rw [harr]; exact hs (g.inn lent w) w _ (rel_inn R0 lent) (frzVs_sound R0 hfz (fun h => by rw [← hlent]; exact h) hall)) fun e w' hR => ?_
        obtain ⟨u, g', rfl, hv, R1, H⟩ := hR
        refine ⟨u, rfl, ?_⟩
        have H2 : Ext g w r.st (g.out w r.st.length (lent = false) g') w' r.st := by simpa using ext_out (keep := lent = false) R0 H []
        have R2 := rel_out_nil (keep := lent = false) R0 H R1
        have hF : Fr κ loc nt (g.out w r.st.length (lent = false) g') w' r a := F.ext H2 rfl rfl
        refine k _ w' _ ?_ ?_ ?_ (hF.put hd fun _ => ?_)
        · rw [put_st]; exact H2
        · rw [put_st]; exact R2
        · rw [put_st]; exact L
        · rcases hc2 with hl | hl
          · exact vrel_back (out_keeps hl hl H) v u hv
          · exact vrel_plain v u hl hv
      · cases h
    | ck =>
      simp only at h
      split at h
      · cases h
      · rename_i hown
        have hlent : (first.map V.one ++ (r.gets xs ++ caps.map V.one)).any isOwn = false := by simpa using hown
        rw [Option.map_eq_some_iff] at h
        obtain ⟨⟨v, σ'⟩, hC, rfl⟩ := h
        rw [Option.bind_eq_some_iff] at hC
        obtain ⟨as, hfz, hC⟩ := hC
        obtain ⟨he, hs⟩ := S f as [] v σ' hC
        refine wp_enter (run_callOp ho hcal ef he) (R := _) (by rw [harr]; exact hs (g.inn false w) w _ (rel_inn R0 false) (frzVs_sound R0 hfz (fun h => by rw [hlent] at h; cases h) hall)) fun e w' hR => ?_
        obtain ⟨u, g', rfl, hv, R1, H⟩ := hR
        refine ⟨u, rfl, ?_⟩
        have H2 := ext_out (keep := True) R0 H (σ'.map (Ob.shift r.st.length))
        have R2 := rel_out (keep := True) R0 trivial rfl H R1
        have hF : Fr κ loc nt (g.out w r.st.length True g') w' { r with st := r.st ++ σ'.map (Ob.shift r.st.length) } a := F.ext (r' := { r with st := r.st ++ σ'.map (Ob.shift r.st.length) }) H2 rfl rfl
        refine k _ w' _ ?_ ?_ ?_ (hF.put hd fun _ => vrel_shift trivial rfl H v u hv) <;> rw [callCk, put_st]
        · exact H2
        · exact R2
        · exact L.append _
  · cases h
end
end Go.A

/- Arrays that are not written any more, strings out of bytes. -/
namespace Go.A
section
variable {P : Program} {κ : List Tmp} {loc : List (Option Tmp)} {nt : Nat} {g : G} {w : World} {r r' : R} {a : Act} {o : Go.Oper} {d : D} {next : Act → World → Prop} {Q : Exit → Act → World → Prop}
theorem frzRow_kns : ∀ {cs : List C} {fs : List Fz}, frzRow cs = some fs → C.kns cs = true
  | [], _, _ => rfl
  | c :: cs, fs, h => by
    rw [frzRow] at h
    obtain ⟨y, z, h1, h2, rfl⟩ := ocons_some h
    have ih := frzRow_kns h2
    cases c <;> first | exact ih | (simp [frzC] at h1)
theorem bxf_sound (R0 : Rel g w r.st) (L : Low r.base r.lim r.st) (F : Fr κ loc nt g w r a) {t : TypeId} {x : Operand} {sz : Nat} (ho : o.op = .box t x) (hd : okD κ nt o.dst d = true) (h0 : 0 < sz)
    {vx : V} (hx : vrel g w r.st vx (a.eval x)) (hl : vx.cells.length = sz) {fs : List Fz} (hf : frzRow vx.cells = some fs)
    (k : Then κ (locOf o.dst d :: loc) nt g w r (abxf r d fs) (a.put o.dst) next) : o.wp P a w next Q := by
  subst hl
  obtain ⟨k1, k2⟩ := vrel_cells hx (frzRow_kns hf) h0
  have hrows : frzRows [vx.cells] = some [fs] := by simp [frzRows, hf, ocons]
  have hlay := lay_of_rows (arr := (a.eval x).cells) (by
    have := crels_length k1
    simp at this ⊢
    exact this) (rowRel_one k1 k2) hrows
  obtain ⟨g', H, R1, hv⟩ := alloc_fz R0 t hlay
  refine eff_then (r1 := r) F hd H R1 L rfl rfl (u := .pointer (some ⟨w.heap.size, 0, none⟩)) ?_ ?_ k
  · unfold execOp
    simp [ho, Instr.box, newVar, newRow]
  · simp only [vsl, vrel, crel, rep] at hv ⊢
    obtain ⟨ad, c, sz', e1, e2, e3, e4⟩ := hv
    rcases e4 with h | ⟨b, oo, h, h5⟩
    · cases h
    · injection e1 with q1 q2 q3
      rw [h] at q1
      injection q1 with q1
      injection q1 with q1 q4
      subst q1 q4
      simp only [repRows] at h5
      exact ⟨_, 0, rfl, h5.1⟩
theorem sla_sound {t e : TypeId} {n l : Nat} {x : Operand} {lo : Option Operand} (ho : o.op = .slice t x lo none none) (ht : P.underlying t = some (.array n e)) (hs : szOf P e = some 1)
    (hlo : (lo = none ∧ l = 0) ∨ ∃ k, lo = some (.const (.int k (l : Int)))) {vx v : V} (hx : vrel g w r.st vx (a.eval x)) (h : asla n l vx = some v) :
    ∃ u, (execOp a.eval o).run P w = .ok (.value u) w ∧ vrel g w r.st v u := by
  unfold asla at h
  split at h
  · rename_i cs
    split at h
    · rename_i hc
      injection h with h
      subst h
      simp only [vrel, crel] at hx
      obtain ⟨b, oo, ex, hr⟩ := hx
      unfold szOf at hs
      cases hq : P.info? e with
      | none => simp [hq] at hs
      | some inf =>
        have hsz : inf.size = 1 := by simpa [hq] using hs
        have hb : (lo.map a.eval = none ∧ l = 0) ∨ ∃ k, lo.map a.eval = some (.int k (l : Int)) := by
          rcases hlo with ⟨rfl, h2⟩ | ⟨k, rfl⟩
          · exact .inl ⟨rfl, h2⟩
          · exact .inr ⟨k, rfl⟩
        have hbd := run_sliceBounds (w := w) (P := P) false (len := n) (cap := n) (lo := l) (hi := n) (vlo := lo.map a.eval) (vhi := none) (vmx := none) hb (.inl ⟨rfl, rfl, rfl⟩) (.inl rfl) hc.2 (Nat.le_refl _)
        refine ⟨.slice (some (if n = l then ⟨b, oo, none⟩ else (⟨b, oo, none⟩ : Addr).add (l * 1))) (n - l) (n - l), ?_, ?_⟩
        · unfold execOp
          simp only [ho, ex]
          simp [Instr.sliceAt, run_underlying ht, Go.Instr.sureAddr, hbd, sizeOf, typeInfo, hq, hsz]
        · simp only [vsl, vrel, crel, rep]
          have hlen : ((cs.drop l).map single).length = n - l := by simp; omega
          refine ⟨_, n - l, 1, by rw [hlen], by omega, lenAll_of fun e he => ?_, ?_⟩
          · obtain ⟨c, _, rfl⟩ := List.mem_map.1 he
            rfl
          · by_cases c0 : n = l
            · refine .inl ?_
              rw [List.map_eq_nil_iff, List.drop_eq_nil_iff]
              omega
            · refine .inr ⟨b, oo + l, ?_, repRows_of fun i e hi => repRow_of fun j y hj => ?_⟩
              · rw [if_neg c0, add_plain']
                simp
              · rw [List.getElem?_map, Option.map_eq_some_iff] at hi
                obtain ⟨c, hi, rfl⟩ := hi
                rw [List.getElem?_drop] at hi
                cases j with
                | succ j => simp [single] at hj
                | zero =>
                  simp [single] at hj
                  subst hj
                  obtain ⟨u, h1, h2, h3⟩ := repRow_get hr hi
                  refine ⟨u, ?_, ?_, h3⟩
                  · rw [show oo + l + i * 1 + 0 = oo + (l + i) from by omega]; exact h1
                  · rw [show oo + l + i * 1 + 0 = oo + (l + i) from by omega]; exact h2
    · cases h
  · cases h
theorem bytesOf_some : ∀ {xs : List (List Fz)} {ns : List Int}, bytesOf xs = some ns → xs = ns.map fun n => [.lit (.int .u8 n)]
  | [], ns, h => by
    simp [bytesOf] at h
    subst h
    rfl
  | e :: es, ns, h => by
    rw [bytesOf] at h
    obtain ⟨y, z, h1, h2, rfl⟩ := ocons_some h
    have ih := bytesOf_some h2
    unfold byteOf at h1
    split at h1
    · injection h1 with h1
      subst h1
      rw [ih]
      rfl
    · cases h1
theorem str_sound (R0 : Rel g w r.st) {s t e : TypeId} {x : Operand} (ho : o.op = .convert s t x) (hs : P.underlying s = some (.slice e)) (he : P.underlying e = some (.int .u8)) (ht : P.underlying t = some .string)
    {vx v : V} (hx : vrel g w r.st vx (a.eval x)) (h : (elems r.st vx).bind astr = some v) :
    ∃ u, (execOp a.eval o).run P w = .ok (.value u) w ∧ vrel g w r.st v u := by
  rw [Option.bind_eq_some_iff] at h
  obtain ⟨xs, h1, h2⟩ := h
  unfold astr at h2
  rw [Option.map_eq_some_iff] at h2
  obtain ⟨ns, h2, rfl⟩ := h2
  have hxs := bytesOf_some h2
  have hok : okSz 1 xs = true := by
    rw [hxs]
    clear hxs h2 h1 hx
    induction ns with
    | nil => rfl
    | cons n ns ih => rw [List.map_cons, okSz, ih]; rfl
  obtain ⟨a', c, news, ex, hlay, hat, hnil⟩ := elems_sound R0 hx h1 hok
  have hnews : news = ns.map (Value.int .u8) := by
    refine List.ext_getElem? fun i => ?_
    rw [List.getElem?_map]
    cases hi : ns[i]? with
    | none =>
      have : ns.length ≤ i := List.getElem?_eq_none_iff.1 hi
      have hl := hlay.1
      rw [hxs] at hl
      simp at hl
      simp
      omega
    | some n =>
      have hxi : xs[i]? = some [.lit (.int .u8 n)] := by rw [hxs, List.getElem?_map, hi]; rfl
      obtain ⟨u, k1, k2⟩ := hlay.2.2 i _ hxi 0 (.lit (.int .u8 n)) rfl
      simp only [Nat.mul_one, Nat.add_zero] at k1
      rw [k1]
      simp only [rep] at k2
      simp [k2]
  refine ⟨.string (strOf ns), ?_, vrel_lit_mk (v := .string (strOf ns)) rfl⟩
  unfold execOp
  simp only [ho, ex]
  have key : (convert s t (.slice a' xs.length c)).run P w = .ok (.string (strOf ns)) w := by
    cases a' with
    | none =>
      have := run_convert_bytes_nil (P := P) w s e hs he xs.length c t ht
      rw [this]
      have hl := hnil rfl
      have hns : ns = [] := by
        rw [hxs] at hl
        simpa using hl
      rw [hns]
      rfl
    | some ad =>
      have hl : (loadCells ad xs.length).run P w = .ok (ns.map (Value.int .u8)).toArray w := by
        have := run_loadCells_list (P := P) w ad (ns.map (Value.int .u8)) (fun j v hj => by
          rw [← hnews] at hj
          exact hat ad rfl j v hj)
        have e2 : (ns.map (Value.int .u8)).length = xs.length := by rw [hxs]; simp
        rwa [e2] at this
      rw [run_convert_bytes_string w s t e _ xs.length c hs he ht, run_bytesToString w ad xs.length c ns hl, foldl_push_bytes]
      simp [strOf, ByteArray.empty, ByteArray.emptyWithCapacity]
      rfl
  simp [key]
theorem steq_sound {op : BinOp} {t yt : TypeId} {x y : Operand} {neg : Bool} (ho : o.op = .binOp op t x y yt) (hop : (op = .eql ∧ neg = false) ∨ (op = .neq ∧ neg = true)) (ht : P.underlying t = some .string)
    {vx vy v : V} (hx : vrel g w r.st vx (a.eval x)) (hy : vrel g w r.st vy (a.eval y)) (h : asteq neg vx vy = some v) :
    ∃ u, (execOp a.eval o).run P w = .ok (.value u) w ∧ vrel g w r.st v u := by
  unfold asteq at h
  split at h
  · rename_i p q
    obtain ⟨ex, _⟩ := vrel_lit hx
    obtain ⟨ey, _⟩ := vrel_lit hy
    injection h with h
    subst h
    rcases hop with ⟨rfl, rfl⟩ | ⟨rfl, rfl⟩
    · refine ⟨.bool (p.toList == q.toList), ?_, vrel_lit_mk (v := .bool (p.toList == q.toList)) rfl⟩
      unfold execOp
      simp only [ho, ex, ey]
      simp [eqGuard, binOp, Op.stringOp]
    · refine ⟨.bool (!(p.toList == q.toList)), ?_, vrel_lit_mk (v := .bool (!(p.toList == q.toList))) rfl⟩
      unfold execOp
      simp only [ho, ex, ey]
      simp [eqGuard, binOp, Op.stringOp]
  · cases h
end
end Go.A

/- One operation: the check, and what it is worth. -/
namespace Go.A

def isNo : D → Bool
  | .no => true
  | _ => false
def okOpt (κ : List Tmp) (loc : List (Option Tmp)) : Option Operand → Option X → Bool
  | none, none => true
  | some x, some y => okX κ loc x y
  | _, _ => false
/-- A load's size. -/
def okLd (P : Program) (t : TypeId) : Option Nat → Bool
  | none => aggTy P t == some false
  | some n => aggTy P t == some true && szOf P t == some n
def okZero (P : Program) (t : TypeId) (zero : List C) (fresh : List (Nat × Nat)) : Bool :=
  match zeroOf P t with
  | some zs => okCells zs zero && okFresh zs fresh
  | none => false

def muOf : Go.Op → Option (TypeId × Operand × Operand × Operand)
  | .mapUpdate t m k v => some (t, m, k, v)
  | .insert t m k v => some (t, m, k, v)
  | _ => none
theorem muOf_some {o : Go.Op} {t : TypeId} {m k v : Operand} (h : muOf o = some (t, m, k, v)) : o = .mapUpdate t m k v ∨ o = .insert t m k v := by
  unfold muOf at h
  split at h
  · injection h with h
    simp only [Prod.mk.injEq] at h
    obtain ⟨rfl, rfl, rfl, rfl⟩ := h
    exact .inl rfl
  · injection h with h
    simp only [Prod.mk.injEq] at h
    obtain ⟨rfl, rfl, rfl, rfl⟩ := h
    exact .inr rfl
  · cases h
/-- Does the machine's operation stand for the loaded one? -/
def chkOp (P : Program) (κ : List Tmp) (loc : List (Option Tmp)) (o : Go.Oper) (d : D) : Op → Bool
  | .mv x => match o.op with
    | .move y => okX κ loc y x
    | .assign y => okX κ loc y x
    | _ => false
  | .pick c x y => match o.op with
    | .pick c' x' y' => okX κ loc c' c && okX κ loc x' x && okX κ loc y' y
    | _ => false
  | .bin op x y => match o.op with
    | .binOp op' _ x' y' _ => decide (op' = op) && okX κ loc x' x && okX κ loc y' y
    | _ => false
  | .beq neg x y => match o.op with
    | .binOp op t x' y' _ => (match op with
      | .eql => !neg
      | .neq => neg
      | _ => false) && (match P.underlying t with
      | some .bool => true
      | _ => false) && okX κ loc x' x && okX κ loc y' y
    | _ => false
  | .pnil neg x => match o.op with
    | .binOp op t x' (.const (.pointer none)) _ => (match op with
      | .eql => !neg
      | .neq => neg
      | _ => false) && (match P.underlying t with
      | some (.pointer _) => true
      | _ => false) && okX κ loc x' x
    | _ => false
  | .eqa n neg x y => match o.op with
    | .binOp op t x' y' _ => (match op with
      | .eql => !neg
      | .neq => neg
      | _ => false) && flatTy P t == some n && !(P.eqGuardType P.depth t) && okX κ loc x' x && okX κ loc y' y
    | _ => false
  | .un op x => match o.op with
    | .unOp op' _ x' => decide (op' = op) && okX κ loc x' x
    | _ => false
  | .conv k x => match o.op with
    | .convert s t x' => (P.underlying s).isSome && (match P.underlying t with
      | some (.int k') => decide (k' = k)
      | _ => false) && okX κ loc x' x
    | _ => false
  | .len x => match o.op with
    | .call { callee := .builtin .len, args := ⟨[x']⟩, argTypes := ⟨[t]⟩ } => (match P.underlying t with
      | some (.slice _) => true
      | _ => false) && okX κ loc x' x
    | _ => false
  | .lens x => match o.op with
    | .call { callee := .builtin .len, args := ⟨[x']⟩, argTypes := ⟨[t]⟩ } => (match P.underlying t with
      | some .string => true
      | _ => false) && okX κ loc x' x
    | _ => false
  | .fa off x => match o.op with
    | .fieldAddr t x' i => (match P.underlying t with
      | some (.struct fs) => (match fs[i]? with
        | some f => (match szOf P f.type with
          | some n => decide (n ≠ 0)
          | none => false) && f.offset == off
        | none => false)
      | _ => false) && okX κ loc x' x
    | _ => false
  | .ia sz x i => match o.op with
    | .indexAddr t x' i' => (match P.underlying t with
      | some (.slice e) => szOf P e == some sz
      | _ => false) && okX κ loc x' x && okX κ loc i' i
    | _ => false
  | .iaa n sz x i => match o.op with
    | .indexAddr t x' i' => (match P.underlying t with
      | some (.array n' e) => n' == n && szOf P e == some sz
      | _ => false) && okX κ loc x' x && okX κ loc i' i
    | _ => false
  | .ld sz x => match o.op with
    | .load t x' => okLd P t sz && okX κ loc x' x
    | _ => false
  | .st sz x v => match o.op with
    | .store t x' v' => isNo d && szOf P t == some sz && decide (0 < sz) && okX κ loc x' x && okX κ loc v' v
    | _ => false
  | .al zero fresh => match o.op with
    | .alloc t => okZero P t zero fresh
    | _ => false
  | .box sz x => match o.op with
    | .box _ x' => decide (0 < sz) && okX κ loc x' x
    | _ => false
  | .bld zero parts fresh => match o.op with
    | .build t ps => okZero P t zero fresh && (match placesOf P t with
      | some place => okParts κ loc place ps.toList parts
      | none => false)
    | _ => false
  | .bsl _ sz zero parts => match o.op with
    | .buildSlice t len ps => (match P.underlying t with
      | some (.slice e) => szOf P e == some sz && (match zeroOf P e with
        | some zs => zs.length == sz && zs.all Value.oneCell' && okZeros zs zero
        | none => false)
      | _ => false) && decide (0 < sz) && zero.length == len && decide (len * sz ≤ 16777216) && okPartsS κ loc ps.toList parts
    | _ => false
  | .nl _ _ => match o.op with
    | .move (.const (.slice none 0 0)) => true
    | .assign (.const (.slice none 0 0)) => true
    | _ => false
  | .app sz s x => match o.op with
    | .call { callee := .builtin .append, args := ⟨[s', x']⟩, argTypes := ⟨[t, t']⟩ } => t == t' && (match P.underlying t with
      | some (.slice e) => (match P.info? e with
        | some i => decide (i.bytes ≤ 32768) && i.size == sz
        | none => false) && (match zeroOf P e with
        | some zs => zs.length == sz
        | none => false)
      | _ => false) && decide (0 < sz) && okX κ loc s' s && okX κ loc x' x
    | _ => false
  | .cpy sz x y => match o.op with
    | .call { callee := .builtin .copy, args := ⟨[x', y']⟩, argTypes := ⟨[t, _]⟩ } => (match P.underlying t with
      | some (.slice e) => szOf P e == some sz
      | _ => false) && decide (0 < sz) && okX κ loc x' x && okX κ loc y' y
    | _ => false
  | .mks zero fresh n => match o.op with
    | .makeSlice t (.tmp l) (.tmp c) => l == c && (match P.underlying t with
      | some (.slice e) => (match P.info? e with
        | some i => decide (i.bytes ≤ 32768) && decide (0 < i.size) && (match zeroOf P e with
          | some zs => zs.length == i.size && okCells zs zero && (match fresh with
            | some j => okFresh zs [j]
            | none => true)
          | none => false)
        | none => false)
      | _ => false) && okX κ loc (.tmp l) n
    | _ => false
  | .mkr zero j _ n => match o.op with
    | .makeSlice t (.tmp l) (.tmp c) => l == c && (match P.underlying t with
      | some (.slice e) => (match P.info? e with
        | some i => decide (i.bytes ≤ 32768) && decide (0 < i.size) && (match zeroOf P e with
          | some zs => zs.length == i.size && okCells zs zero && okFresh zs [(j, 0)]
          | none => false)
        | none => false)
      | _ => false) && okX κ loc (.tmp l) n
    | _ => false
  | .mkc sz n => match o.op with
    | .makeSlice t (.const (.int _ 0)) x => (match P.underlying t with
      | some (.slice e) => (match P.info? e with
        | some i => decide (i.bytes ≤ 32768) && i.size == sz && i.zero.isSome
        | none => false)
      | _ => false) && okX κ loc x n
    | _ => false
  | .slc sz x lo hi mx => match o.op with
    | .slice t x' lo' hi' mx' => (match P.underlying t with
      | some (.slice e) => szOf P e == some sz
      | _ => false) && okX κ loc x' x && okOpt κ loc lo' lo && okOpt κ loc hi' hi && (match mx, mx' with
      | none, none => true
      | some m, some m' => hi.isSome && okX κ loc m' m
      | _, _ => false)
    | _ => false
  | .slcs x lo hi => match o.op with
    | .slice t x' lo' hi' none => (match P.underlying t with
      | some .string => true
      | _ => false) && okX κ loc x' x && okOpt κ loc lo' lo && okOpt κ loc hi' hi
    | _ => false
  | .nlc _ _ _ => false
  | .ext x i => match o.op with
    | .extract x' i' => i' == i && okX κ loc x' x
    | _ => false
  | .fld off sz x => match o.op with
    | .field t x' i => (match P.underlying t with
      | some (.struct fs) => (match fs[i]? with
        | some f => f.offset == off && okLd P f.type sz
        | none => false)
      | _ => false) && okX κ loc x' x
    | _ => false
  | .idx n x i => match o.op with
    | .index t x' i' => (match P.underlying t with
      | some (.array n' e) => n' == n && szOf P e == some 1 && aggTy P e == some false
      | _ => false) && okX κ loc x' x && okX κ loc i' i
    | _ => false
  | .bxf sz x => match o.op with
    | .box _ x' => decide (0 < sz) && okX κ loc x' x
    | _ => false
  | .sla n l x => match o.op with
    | .slice t x' lo none none => (match P.underlying t with
      | some (.array n' e) => n' == n && szOf P e == some 1
      | _ => false) && okX κ loc x' x && (match lo with
      | none => l == 0
      | some (.const (.int _ k)) => decide (k = (l : Int))
      | _ => false)
    | _ => false
  | .str x => match o.op with
    | .convert s t x' => (match P.underlying s with
      | some (.slice e) => (match P.underlying e with
        | some (.int .u8) => true
        | _ => false)
      | _ => false) && (match P.underlying t with
      | some .string => true
      | _ => false) && okX κ loc x' x
    | _ => false
  | .steq neg x y => match o.op with
    | .binOp op t x' y' _ => (match op with
      | .eql => !neg
      | .neq => neg
      | _ => false) && (match P.underlying t with
      | some .string => true
      | _ => false) && okX κ loc x' x && okX κ loc y' y
    | _ => false
  | .nil x => match o.op with
    | .nilCheck x' => okX κ loc x' x
    | _ => false
  | .mkf f first caps => match o.op with
    | .makeFunc (.func f') first' caps' => f' == f && okXs κ loc first'.toList first && okXs κ loc caps'.toList caps
    | _ => false
  | .mkm => match o.op with
    | .makeMap _ none => true
    | _ => false
  | .lk zero ok m k => match o.op with
    | .lookup t m' k' ok' => ok' == ok && (match P.underlying t with
      | some (.map key elem) => (match P.underlying key with
        | some (.int .i64) => true
        | _ => false) && (match P.info? elem with
        | some i => (match i.zero with
          | some z => okConst z zero
          | none => false)
        | none => false)
      | _ => false) && okX κ loc m' m && okX κ loc k' k
    | _ => false
  | .mu m k v => match muOf o.op with
    | some (t, m', k', v') => isNo d && (match P.underlying t with
      | some (.map key _) => (match P.underlying key with
        | some (.int .i64) => true
        | _ => false)
      | _ => false) && okX κ loc m' m && okX κ loc k' k && okX κ loc v' v
    | none => false
  | .mxn isMax x y => match o.op with
    | .call { callee := .builtin b, args := ⟨[x', y']⟩, .. } => decide (b = if isMax then .max else .min) && okX κ loc x' x && okX κ loc y' y
    | _ => false
  | .call _ f xs => match o.op with
    | .call { callee := .value f', args, .. } => okX κ loc f' f && okXs κ loc args.toList xs
    | _ => false
  | .no _ => true

section
variable {P : Program} {κ : List Tmp} {loc : List (Option Tmp)} {nt : Nat} {g : G} {w : World} {r r' : R} {a : Act} {o : Go.Oper} {d : D} {next : Act → World → Prop} {Q : Exit → Act → World → Prop}

theorem okOpt_sound (F : Fr κ loc nt g w r a) {x : Option Operand} {y : Option X} (h : okOpt κ loc x y = true) : Opt g w r a x y := by
  unfold okOpt at h
  split at h
  · exact ⟨fun z hz => (by cases hz), fun _ => rfl⟩
  · rename_i x y
    exact ⟨fun z hz => (by injection hz with hz; subst hz; exact ⟨x, rfl, F.get h⟩), fun hn => (by cases hn)⟩
  · cases h
theorem okLd_sound {t : TypeId} : ∀ {sz : Option Nat}, okLd P t sz = true → match sz with
      | none => aggTy P t = some false
      | some n => aggTy P t = some true ∧ szOf P t = some n
  | none, h => by simpa [okLd] using h
  | some n, h => by simpa [okLd] using h
theorem okZero_some {t : TypeId} {zero : List C} {fresh : List (Nat × Nat)} (h : okZero P t zero fresh = true) : ∃ zs, zeroOf P t = some zs ∧ okCells zs zero = true ∧ okFresh zs fresh = true := by
  unfold okZero at h
  split at h
  · rename_i zs hz
    simp only [Bool.and_eq_true] at h
    exact ⟨zs, hz, h⟩
  · cases h

theorem op_sound {Cf : Caller} (S : Sound P Cf) (R0 : Rel g w r.st) (L : Low r.base r.lim r.st) (F : Fr κ loc nt g w r a) (hd : okD κ nt o.dst d = true) {x : Op} (hc : chkOp P κ loc o d x = true) {r1 : R} (h : stepOp Cf r d x = some r1)
    (k : Then κ (locOf o.dst d :: loc) nt g w r r1 (a.put o.dst) next) : o.wp P a w next Q := by
  have pure : ∀ {v : V}, (∃ u, (execOp a.eval o).run P w = .ok (.value u) w ∧ vrel g w r.st v u) → Then κ (locOf o.dst d :: loc) nt g w r (r.put d v) (a.put o.dst) next → o.wp P a w next Q := fun ⟨u, h1, h2⟩ kk => pure_then R0 L F hd h1 h2 kk
  have mapped : ∀ {x : Option V}, x.map (r.put d) = some r1 → (∀ v, x = some v → ∃ u, (execOp a.eval o).run P w = .ok (.value u) w ∧ vrel g w r.st v u) → o.wp P a w next Q := fun {x} hx hv => by
    rw [Option.map_eq_some_iff] at hx
    obtain ⟨v, h1, rfl⟩ := hx
    exact pure (hv v h1) k
  cases x <;> simp only [stepOp] at h <;> simp only [chkOp] at hc
  case mv x =>
    injection h with h
    subst h
    split at hc
    · rename_i y ho
      exact pure ⟨_, mv_sound (.inl ho), F.get hc⟩ k
    · rename_i y ho
      exact pure ⟨_, mv_sound (.inr ho), F.get hc⟩ k
    · cases hc
  case pick c x y =>
    split at hc
    · rename_i c' x' y' ho
      simp only [Bool.and_eq_true] at hc
      exact mapped h fun v hv => pick_sound ho (F.get hc.1.1) (F.get hc.1.2) (F.get hc.2) hv
    · cases hc
  case bin op x y =>
    split at hc
    · rename_i op' t x' y' yt ho
      simp only [Bool.and_eq_true, decide_eq_true_eq] at hc
      obtain ⟨⟨rfl, h1⟩, h2⟩ := hc
      exact mapped h fun v hv => abin_sound ho (F.get h1) (F.get h2) hv
    · cases hc
  case beq neg x y =>
    split at hc
    · rename_i op t x' y' ty ho
      simp only [Bool.and_eq_true] at hc
      obtain ⟨⟨⟨h1, h2⟩, h4⟩, h5⟩ := hc
      have hop : (op = .eql ∧ neg = false) ∨ (op = .neq ∧ neg = true) := by
        cases op <;> simp_all
      split at h2
      · rename_i ht
        exact mapped h fun v hv => beq_sound ho hop ht (F.get h4) (F.get h5) hv
      · cases h2
    · cases hc
  case steq neg x y =>
    split at hc
    · rename_i op t x' y' ty ho
      simp only [Bool.and_eq_true] at hc
      obtain ⟨⟨⟨h1, h2⟩, h4⟩, h5⟩ := hc
      have hop : (op = .eql ∧ neg = false) ∨ (op = .neq ∧ neg = true) := by
        cases op <;> simp_all
      split at h2
      · rename_i ht
        exact mapped h fun v hv => steq_sound ho hop ht (F.get h4) (F.get h5) hv
      · cases h2
    · cases hc
  case str x =>
    split at hc
    · rename_i s t x' ho
      simp only [Bool.and_eq_true] at hc
      obtain ⟨⟨h1, h2⟩, h3⟩ := hc
      split at h1
      · rename_i e hs
        split at h1
        · rename_i he
          split at h2
          · rename_i ht
            exact mapped h fun v hv => str_sound R0 ho hs he ht (F.get h3) hv
          · cases h2
        · cases h1
      · cases h1
    · cases hc
  case sla n l x =>
    split at hc
    · rename_i t x' lo ho
      simp only [Bool.and_eq_true] at hc
      obtain ⟨⟨h1, h2⟩, h3⟩ := hc
      split at h1
      · rename_i n' e ht
        simp only [Bool.and_eq_true, beq_iff_eq] at h1
        obtain ⟨rfl, hs⟩ := h1
        refine mapped h fun v hv => sla_sound ho ht hs ?_ (F.get h2) hv
        split at h3
        · exact .inl ⟨rfl, by simpa using h3⟩
        · rename_i kk k
          exact .inr ⟨kk, by rw [of_decide_eq_true h3]⟩
        · cases h3
      · cases h1
    · cases hc
  case bxf sz x =>
    split at hc
    · rename_i t x' ho
      simp only [Bool.and_eq_true, decide_eq_true_eq] at hc
      split at h
      · rename_i hcc
        rw [Option.map_eq_some_iff] at h
        obtain ⟨fs, hf, rfl⟩ := h
        exact bxf_sound R0 L F ho hd hc.1 (F.get hc.2) hcc hf k
      · cases h
    · cases hc
  case pnil neg x =>
    split at hc
    · rename_i op t x' ty ho
      simp only [Bool.and_eq_true] at hc
      obtain ⟨⟨h1, h2⟩, h4⟩ := hc
      have hop : (op = .eql ∧ neg = false) ∨ (op = .neq ∧ neg = true) := by
        cases op <;> simp_all
      split at h2
      · rename_i ht
        exact mapped h fun v hv => pnil_sound ho hop ht (F.get h4) hv
      · cases h2
    · cases hc
  case eqa n neg x y =>
    split at hc
    · rename_i op t x' y' ty ho
      simp only [Bool.and_eq_true, beq_iff_eq, Bool.not_eq_true'] at hc
      obtain ⟨⟨⟨⟨h1, h2⟩, h3⟩, h4⟩, h5⟩ := hc
      have hop : (op = .eql ∧ neg = false) ∨ (op = .neq ∧ neg = true) := by
        cases op <;> simp_all
      exact mapped h fun v hv => eqa_sound ho hop h2 h3 (F.get h4) (F.get h5) hv
    · cases hc
  case un op x =>
    split at hc
    · rename_i op' t x' ho
      simp only [Bool.and_eq_true, decide_eq_true_eq] at hc
      obtain ⟨rfl, h1⟩ := hc
      exact mapped h fun v hv => aun_sound ho (F.get h1) hv
    · cases hc
  case conv kk x =>
    split at hc
    · rename_i s t x' ho
      simp only [Bool.and_eq_true] at hc
      obtain ⟨⟨h1, h2⟩, h3⟩ := hc
      split at h2
      · rename_i k' ht
        have : k' = kk := by simpa using h2
        subst this
        exact mapped h fun v hv => conv_sound ho h1 ht (F.get h3) hv
      · cases h2
    · cases hc
  case len x =>
    split at hc
    · rename_i x' t ho
      simp only [Bool.and_eq_true] at hc
      obtain ⟨h1, h2⟩ := hc
      split at h1
      · rename_i e ht
        exact mapped h fun v hv => len_sound ho rfl rfl rfl ht (F.get h2) hv
      · cases h1
    · cases hc
  case lens x =>
    split at hc
    · rename_i x' t ho
      simp only [Bool.and_eq_true] at hc
      obtain ⟨h1, h2⟩ := hc
      split at h1
      · rename_i ht
        exact mapped h fun v hv => lens_sound ho rfl rfl rfl ht (F.get h2) hv
      · cases h1
    · cases hc
  case fa off x =>
    split at hc
    · rename_i t x' i ho
      simp only [Bool.and_eq_true] at hc
      obtain ⟨h1, h2⟩ := hc
      split at h1
      · rename_i fs ht
        split at h1
        · rename_i f hf
          simp only [Bool.and_eq_true, beq_iff_eq] at h1
          obtain ⟨h1, h3⟩ := h1
          split at h1
          · rename_i n hs
            exact mapped h fun v hv => fa_sound ho ht hf hs (by simpa using h1) h3 (F.get h2) hv
          · cases h1
        · cases h1
      · cases h1
    · cases hc
  case ia sz x i =>
    split at hc
    · rename_i t x' i' ho
      simp only [Bool.and_eq_true] at hc
      obtain ⟨⟨h1, h2⟩, h3⟩ := hc
      split at h1
      · rename_i e ht
        exact mapped h fun v hv => ia_sound ho ht (by simpa using h1) (F.get h2) (F.get h3) hv
      · cases h1
    · cases hc
  case iaa n sz x i =>
    split at hc
    · rename_i t x' i' ho
      simp only [Bool.and_eq_true] at hc
      obtain ⟨⟨h1, h2⟩, h3⟩ := hc
      split at h1
      · rename_i n' e ht
        simp only [Bool.and_eq_true, beq_iff_eq] at h1
        obtain ⟨rfl, h1⟩ := h1
        exact mapped h fun v hv => iaa_sound ho ht h1 (F.get h2) (F.get h3) hv
      · cases h1
    · cases hc
  case ld sz x =>
    split at hc
    · rename_i t x' ho
      simp only [Bool.and_eq_true] at hc
      exact mapped h fun v hv => ld_sound R0 ho (okLd_sound hc.1) (F.get hc.2) hv
    · cases hc
  case st sz x v =>
    split at hc
    · rename_i t x' v' ho
      simp only [Bool.and_eq_true, beq_iff_eq, decide_eq_true_eq] at hc
      obtain ⟨⟨⟨⟨h1, h2⟩, h3⟩, h4⟩, h5⟩ := hc
      rw [Option.map_eq_some_iff] at h
      obtain ⟨r2, h, rfl⟩ := h
      exact st_sound R0 L F ho hd (by cases d <;> simp [isNo] at h1 ⊢) h2 h3 (F.get h4) (F.get h5) h k
    · cases hc
  case al zero fresh =>
    injection h with h
    subst h
    split at hc
    · rename_i t ho
      obtain ⟨zs, h1, h2, h3⟩ := okZero_some hc
      exact al_sound R0 L F ho hd h1 h2 h3 k
    · cases hc
  case box sz x =>
    split at hc
    · rename_i t x' ho
      simp only [Bool.and_eq_true, decide_eq_true_eq] at hc
      split at h
      · rename_i hcc
        injection h with h
        subst h
        exact box_sound R0 L F ho hd hc.1 (F.get hc.2) hcc.1 hcc.2 k
      · cases h
    · cases hc
  case bld zero parts fresh =>
    split at hc
    · rename_i t ps ho
      simp only [Bool.and_eq_true] at hc
      obtain ⟨h1, h2⟩ := hc
      obtain ⟨zs, h3, h4, h5⟩ := okZero_some h1
      split at h2
      · rename_i place hp
        exact bld_sound R0 L F ho hd h3 h4 h5 hp h2 h k
      · cases h2
    · cases hc
  case bsl b sz zero parts =>
    split at hc
    · rename_i t len ps ho
      simp only [Bool.and_eq_true, beq_iff_eq, decide_eq_true_eq] at hc
      obtain ⟨⟨⟨⟨h1, h2⟩, h3⟩, h4⟩, h5⟩ := hc
      split at h1
      · rename_i e ht
        simp only [Bool.and_eq_true, beq_iff_eq] at h1
        obtain ⟨h1, h6⟩ := h1
        split at h6
        · rename_i zs hz
          simp only [Bool.and_eq_true, beq_iff_eq] at h6
          exact bsl_sound R0 L F ho hd ht h1 h2 h3 h4 hz h6.1.1 h6.1.2 h6.2 h5 h k
        · cases h6
      · cases h1
    · cases hc
  case nl b sz =>
    split at hc
    · rename_i ho
      exact nl_sound R0 L F (.inl ho) hd h k
    · rename_i ho
      exact nl_sound R0 L F (.inr ho) hd h k
    · cases hc
  case app sz s x =>
    split at hc
    · rename_i s' x' t t' ho
      simp only [Bool.and_eq_true, beq_iff_eq, decide_eq_true_eq] at hc
      obtain ⟨⟨⟨⟨rfl, h1⟩, h2⟩, h3⟩, h4⟩ := hc
      split at h1
      · rename_i e ht
        simp only [Bool.and_eq_true] at h1
        obtain ⟨h1, h5⟩ := h1
        split at h1
        · rename_i i hi
          split at h5
          · rename_i zs hz
            simp only [Bool.and_eq_true, beq_iff_eq, decide_eq_true_eq] at h1 h5
            exact app_sound R0 L F ho rfl rfl rfl hd ht hi h1.1 h1.2 h2 hz h5 (F.get h3) (F.get h4) h k
          · cases h5
        · cases h1
      · cases h1
    · cases hc
  case cpy sz x y =>
    split at hc
    · rename_i x' y' t t' ho
      simp only [Bool.and_eq_true, decide_eq_true_eq] at hc
      obtain ⟨⟨⟨h1, h2⟩, h3⟩, h4⟩ := hc
      split at h1
      · rename_i e ht
        exact cpy_sound R0 L F ho rfl rfl rfl hd ht (by simpa using h1) h2 (F.get h3) (F.get h4) h k
      · cases h1
    · cases hc
  case mks zero fresh n =>
    split at hc
    · rename_i t l c ho
      simp only [Bool.and_eq_true, beq_iff_eq] at hc
      obtain ⟨⟨rfl, h1⟩, h2⟩ := hc
      split at h1
      · rename_i e ht
        split at h1
        · rename_i i hi
          simp only [Bool.and_eq_true, decide_eq_true_eq] at h1
          obtain ⟨⟨h3, h4⟩, h5⟩ := h1
          split at h5
          · rename_i zs hz
            simp only [Bool.and_eq_true, beq_iff_eq] at h5
            obtain ⟨⟨h6, h7⟩, h8⟩ := h5
            refine mks_sound R0 L F ho hd ht hi h3 rfl h4 hz h6 h7 (fun j hj => ?_) (F.get h2) h k
            subst hj
            simp only [okFresh, Bool.and_true] at h8
            split at h8
            · assumption
            · cases h8
          · cases h5
        · cases h1
      · cases h1
    · cases hc
  case mkr zero j sz n =>
    split at hc
    · rename_i t l c ho
      simp only [Bool.and_eq_true, beq_iff_eq] at hc
      obtain ⟨⟨rfl, h1⟩, h2⟩ := hc
      split at h1
      · rename_i e ht
        split at h1
        · rename_i i hi
          simp only [Bool.and_eq_true, decide_eq_true_eq] at h1
          obtain ⟨⟨h3, h4⟩, h5⟩ := h1
          split at h5
          · rename_i zs hz
            simp only [Bool.and_eq_true, beq_iff_eq] at h5
            obtain ⟨⟨h6, h7⟩, h8⟩ := h5
            refine mkr_sound R0 L F ho hd ht hi h3 rfl h4 hz h6 h7 ?_ (F.get h2) h k
            simp only [okFresh, Bool.and_true] at h8
            split at h8
            · assumption
            · cases h8
          · cases h5
        · cases h1
      · cases h1
    · cases hc
  case mkc sz n =>
    split at hc
    · rename_i t kl x ho
      simp only [Bool.and_eq_true] at hc
      obtain ⟨h1, h2⟩ := hc
      split at h1
      · rename_i e ht
        split at h1
        · rename_i i hi
          simp only [Bool.and_eq_true, decide_eq_true_eq, beq_iff_eq] at h1
          obtain ⟨⟨h3, h4⟩, h5⟩ := h1
          obtain ⟨z, hz⟩ := Option.isSome_iff_exists.1 h5
          exact mkc_sound R0 L F ho hd ht hi h3 h4 hz (F.get h2) h k
        · cases h1
      · cases h1
    · cases hc
  case slc sz x lo hi mx =>
    split at hc
    · rename_i t x' lo' hi' mx' ho
      simp only [Bool.and_eq_true] at hc
      obtain ⟨⟨⟨⟨h1, h2⟩, h3⟩, h4⟩, h5⟩ := hc
      split at h1
      · rename_i e ht
        have hq : mxOk r hi mx = true := by
          by_cases hq : mxOk r hi mx = true
          · exact hq
          · rw [if_neg hq] at h
            cases h
        rw [if_pos hq] at h
        refine mapped h fun v hv => slc_sound ho ht (by simpa using h1) (okOpt_sound F h3) (okOpt_sound F h4) ?_ (F.get h2) hv
        split at h5
        · exact .inl ⟨rfl, rfl⟩
        · rename_i m m'
          simp only [Bool.and_eq_true] at h5
          obtain ⟨h5, h6⟩ := h5
          refine .inr ⟨rfl, h5, ?_⟩
          cases hi with
          | none => cases h5
          | some hx =>
            obtain ⟨z', e1, e2⟩ := (okOpt_sound F h4).1 hx rfl
            have e3 := F.get h6
            simp only [mxOk] at hq
            unfold sameInt at hq
            split at hq
            · rename_i q1 q2
              simp only [Bool.and_eq_true, decide_eq_true_eq] at hq
              rw [q1] at e3
              rw [q2] at e2
              rw [e1, Option.map_some, Option.map_some, (vrel_lit e3).1, (vrel_lit e2).1, hq.1, hq.2]
            · cases hq
        · cases h5
      · cases h1
    · cases hc
  case slcs x lo hi =>
    split at hc
    · rename_i t x' lo' hi' ho
      simp only [Bool.and_eq_true] at hc
      obtain ⟨⟨⟨h1, h2⟩, h3⟩, h4⟩ := hc
      split at h1
      · rename_i ht
        exact mapped h fun v hv => slcs_sound ho ht (okOpt_sound F h3) (okOpt_sound F h4) (F.get h2) hv
      · cases h1
    · cases hc
  case nlc => cases hc
  case ext x i =>
    split at hc
    · rename_i x' i' ho
      simp only [Bool.and_eq_true, beq_iff_eq] at hc
      obtain ⟨rfl, h1⟩ := hc
      exact mapped h fun v hv => ext_sound ho (F.get h1) hv
    · cases hc
  case fld off sz x =>
    split at hc
    · rename_i t x' i ho
      simp only [Bool.and_eq_true] at hc
      obtain ⟨h1, h2⟩ := hc
      split at h1
      · rename_i fs ht
        split at h1
        · rename_i f hf
          simp only [Bool.and_eq_true, beq_iff_eq] at h1
          exact mapped h fun v hv => fld_sound ho ht hf h1.1 (okLd_sound h1.2) (F.get h2) hv
        · cases h1
      · cases h1
    · cases hc
  case idx n x i =>
    split at hc
    · rename_i t x' i' ho
      simp only [Bool.and_eq_true] at hc
      obtain ⟨⟨h1, h2⟩, h3⟩ := hc
      split at h1
      · rename_i n' e ht
        simp only [Bool.and_eq_true, beq_iff_eq] at h1
        obtain ⟨⟨rfl, h1⟩, h4⟩ := h1
        exact mapped h fun v hv => idx_sound ho ht h1 h4 (F.get h2) (F.get h3) hv
      · cases h1
    · cases hc
  case nil x =>
    split at hc
    · rename_i x' ho
      exact mapped h fun v hv => nil_sound ho (F.get hc) hv
    · cases hc
  case mkf f first caps =>
    injection h with h
    subst h
    split at hc
    · rename_i f' first' caps' ho
      simp only [Bool.and_eq_true, beq_iff_eq] at hc
      obtain ⟨⟨rfl, h1⟩, h2⟩ := hc
      exact pure (mkf_sound F ho h1 h2) k
    · cases hc
  case mkm =>
    injection h with h
    subst h
    split at hc
    · rename_i t ho
      exact mkm_sound R0 L F ho hd k
    · cases hc
  case lk zero ok m kk =>
    split at hc
    · rename_i t m' k' ok' ho
      simp only [Bool.and_eq_true, beq_iff_eq] at hc
      obtain ⟨⟨⟨rfl, h1⟩, h2⟩, h3⟩ := hc
      split at h1
      · rename_i key elem ht
        simp only [Bool.and_eq_true] at h1
        obtain ⟨h1, h4⟩ := h1
        split at h1
        · rename_i hk
          split at h4
          · rename_i i hi
            split at h4
            · rename_i z hz
              exact mapped h fun v hv => lk_sound R0 ho ht hk hi hz h4 (F.get h2) (F.get h3) hv
            · cases h4
          · cases h4
        · cases h1
      · cases h1
    · cases hc
  case mu m kk v =>
    split at hc
    · rename_i t m' k' v' ho
      simp only [Bool.and_eq_true] at hc
      obtain ⟨⟨⟨⟨h1, h2⟩, h3⟩, h4⟩, h5⟩ := hc
      split at h2
      · rename_i key elem ht
        split at h2
        · rename_i hk
          rw [Option.map_eq_some_iff] at h
          obtain ⟨r2, h, rfl⟩ := h
          exact mu_sound R0 L F (muOf_some ho) hd (by cases d <;> simp [isNo] at h1 ⊢) ht hk (F.get h3) (F.get h4) (F.get h5) h k
        · cases h2
      · cases h2
    · cases hc
  case mxn isMax x y =>
    split at hc
    · rename_i b x' y' tys ho
      simp only [Bool.and_eq_true, decide_eq_true_eq] at hc
      obtain ⟨⟨h1, h2⟩, h3⟩ := hc
      exact mapped h fun v hv => mxn_sound ho rfl h1 rfl (F.get h2) (F.get h3) hv
    · cases hc
  case call m f xs =>
    split at hc
    · rename_i f' args tys ho
      simp only [Bool.and_eq_true] at hc
      exact call_sound S R0 L F ho rfl hd hc.1 hc.2 h k
    · cases hc
  case no => exact absurd h (by simp [stepOp])
end
end Go.A

/- Regions without a draw; what stands between regions. -/
namespace Go.A

/-- The guard of an operation. -/
def okGuard (κ : List Tmp) (loc : List (Option Tmp)) (gops : Array Go.Oper) : Option (Nat × Bool) → Option (X × Bool) → Bool
  | none, none => true
  | some (j, b), some (x, b') => (b == b') && (match (gops[j]?).bind (·.dst) with
    | some t => okX κ loc (.tmp t) x
    | none => false)
  | _, _ => false
def chkOps (P : Program) (κ : List Tmp) (nt : Nat) (gops : Array Go.Oper) : List (Option Tmp) → List Go.Oper → List Oper → Bool
  | _, [], [] => true
  | loc, o :: os, x :: xs => okD κ nt o.dst x.dst && okGuard κ loc gops o.guard x.guard && chkOp P κ loc o x.dst x.op && chkOps P κ nt gops (locOf o.dst x.dst :: loc) os xs
  | _, _, _ => false

section
variable {P : Program} {κ : List Tmp} {loc : List (Option Tmp)} {nt : Nat} {g : G} {w : World} {r r' : R} {a : Act} {o : Go.Oper} {d : D} {next : Act → World → Prop} {Q : Exit → Act → World → Prop}

theorem guard_none (F : Fr κ loc nt g w r a) {gops : Array Go.Oper} {gd : Option (Nat × Bool)} {gx : Option (X × Bool)} (h : okGuard κ loc gops gd gx = true) : (gx = none → gd = none) := by
  unfold okGuard at h
  split at h
  · exact fun _ => rfl
  · intro h; cases h
  · cases h
theorem yielded_of {gops : Array Go.Oper} {j : Nat} {t : Tmp} {b : Bool} (h : (gops[j]?).bind (·.dst) = some t) (hv : a.tmps.getD t undef = .bool b) : yielded gops a.tmps j = some b := by
  unfold yielded
  rw [h]
  simp only [Option.bind_some]
  cases hq : a.tmps[t]? with
  | none => rw [Array.getD_eq_getD_getElem?, hq] at hv; cases hv
  | some v =>
    rw [Array.getD_eq_getD_getElem?, hq] at hv
    simp only [Option.getD_some] at hv
    rw [hv]

theorem put_base (r : R) (d : D) (v : V) : (r.put d v).base = r.base := by cases d <;> rfl
theorem put_lim (r : R) (d : D) (v : V) : (r.put d v).lim = r.lim := by cases d <;> rfl

/-- One operation of a region. -/
theorem step_sound {Cf : Caller} (S : Sound P Cf) (R0 : Rel g w r.st) (F : Fr κ loc nt g w r a) {gops : Array Go.Oper} {x : Oper} (hd : okD κ nt o.dst x.dst = true) (hg : okGuard κ loc gops o.guard x.guard = true) (hc : chkOp P κ loc o x.dst x.op = true) {r1 : R} (h : step Cf r x = some r1)
    (k : Then κ (locOf o.dst x.dst :: loc) nt g w r r1 (a.put o.dst) next) (hi : ∀ a', next a' w → next a' w) :
    if Region.wanted o (yielded gops a.tmps) then o.wp P a w next Q else next (a.put o.dst undef) w := by
  obtain ⟨d, op, gx⟩ := x
  simp only at hd hg hc
  cases gx with
  | none =>
    have := guard_none F hg rfl
    simp only [Region.wanted, this, if_true]
    exact op_sound S R0 ⟨trivial⟩ F hd hc h k
  | some p =>
    obtain ⟨y, b⟩ := p
    unfold okGuard at hg
    split at hg
    · rename_i heq; cases heq
    · rename_i j b' x' b'' hgd heq
      injection heq with heq
      injection heq with heq1 heq2
      subst heq1 heq2
      simp only [Bool.and_eq_true, beq_iff_eq] at hg
      obtain ⟨rfl, hg⟩ := hg
      split at hg
      · rename_i t ht
        have hv := F.get hg
        simp only [step] at h
        unfold aguard at h
        split at h
        · rename_i tb hget
          rw [hget] at hv
          obtain ⟨ev, _⟩ := vrel_lit hv
          have hy := yielded_of (gops := gops) ht ev
          simp only [Region.wanted, hgd, hy]
          split at h
          · rename_i htb
            subst htb
            simp only [beq_self_eq_true, if_true]
            exact op_sound S R0 ⟨trivial⟩ F hd hc h k
          · rename_i htb
            injection h with h
            subst h
            have : (some tb == some b') = false := by simpa using htb
            rw [this]
            simp only [Bool.false_eq_true, if_false]
            refine k g w _ ?_ ?_ ⟨trivial⟩ (F.put hd fun _ => by simp only [vrel]; exact ⟨#[], rfl, by simp only [vrels]⟩)
            · rw [put_st]; exact Ext.refl _ _ _
            · rw [put_st]; exact R0
        · rename_i hget
          rw [hget] at hv
          injection h with h
          subst h
          have hu : a.tmps.getD t undef = .tuple #[] := by
            simp only [vrel, vrels] at hv
            obtain ⟨us, h1, h2⟩ := hv
            have : us = #[] := by cases us; simpa using h2
            rw [this] at h1
            exact h1
          have hy : yielded gops a.tmps j = none := by
            unfold yielded
            rw [ht]
            simp only [Option.bind_some]
            cases hq : a.tmps[t]? with
            | none => rfl
            | some v =>
              rw [Array.getD_eq_getD_getElem?, hq] at hu
              simp only [Option.getD_some] at hu
              rw [hu]
          simp only [Region.wanted, hgd, hy]
          have : (none == some b') = false := rfl
          rw [this]
          simp only [Bool.false_eq_true, if_false]
          refine k g w _ ?_ ?_ ⟨trivial⟩ (F.put hd fun _ => by simp only [vrel]; exact ⟨#[], rfl, by simp only [vrels]⟩)
          · rw [put_st]; exact Ext.refl _ _ _
          · rw [put_st]; exact R0
        · cases h
      · cases hg
    · cases hg

theorem ops_sound {Cf : Caller} (S : Sound P Cf) {gops : Array Go.Oper} : ∀ (os : List Go.Oper) (xs : List Oper) (i : Nat) {loc : List (Option Tmp)} {g : G} {w : World} {r : R} {a : Act} {r1 : R}, (∀ j, os[j]? = gops[i + j]?) → chkOps P κ nt gops loc os xs = true → steps Cf xs r = some r1 → Rel g w r.st → Fr κ loc nt g w r a →
    (∀ g' w' a' loc', Ext g w r.st g' w' r1.st → Rel g' w' r1.st → Fr κ loc' nt g' w' r1 a' → Q .normal a' w') → wpOps P gops Q (List.range' i os.length) a w
  | [], [], i, loc, g, w, r, a, r1, _, _, h, R0, F, k => by
    simp only [steps, Option.some.injEq] at h
    subst h
    exact k g w a loc (Ext.refl _ _ _) R0 F
  | o :: os, x :: xs, i, loc, g, w, r, a, r1, hi, hc, h, R0, F, k => by
    simp only [chkOps, Bool.and_eq_true] at hc
    obtain ⟨⟨⟨h1, h2⟩, h3⟩, h4⟩ := hc
    simp only [steps, Option.bind_eq_some_iff] at h
    obtain ⟨r2, h5, h6⟩ := h
    have hio : gops[i]? = some o := by simpa using (hi 0).symm
    rw [List.length_cons, List.range'_succ]
    have key := step_sound (Q := Q) (gops := gops) (next := wpOps P gops Q (List.range' (i + 1) os.length)) S R0 F h1 h2 h3 h5 (fun g' w' a' H R1 _ F1 =>
      ops_sound S os xs (i + 1) (fun j => by
        have := hi (j + 1)
        rw [show i + (j + 1) = i + 1 + j from by omega] at this
        rw [← this]
        simp) h4 h6 R1 F1 fun g2 w2 a2 loc2 H2 R2 F2 => k g2 w2 a2 loc2 (H.trans H2) R2 F2) (fun _ h => h)
    simp only [wpOps, hio]
    split
    · rename_i hw
      rw [if_pos hw] at key
      exact .inl key
    · rename_i hw
      rw [if_neg hw] at key
      exact key
  | [], _ :: _, _, _, _, _, _, _, _, _, hc, _, _, _, _ => by simp [chkOps] at hc
  | _ :: _, [], _, _, _, _, _, _, _, _, hc, _, _, _, _ => by simp [chkOps] at hc

/-! ### Between regions -/
/-- Where a function's run stands. -/
structure At' (g0 : G) (w0 : World) (σ0 : Store) (κ : List Tmp) (nt : Nat) (g : G) (w : World) (s : St) (a : Act) : Prop where
  ext : Ext g0 w0 σ0 g w s.st
  rel : Rel g w s.st
  fr : Fr κ [] nt g w ⟨[], s.env, s.st, s.base, s.lim⟩ a

theorem Fr.bare {rs : List V} {env : List V} {st : Store} {b l b' l' : Nat} (F : Fr κ loc nt g w ⟨rs, env, st, b, l⟩ a) : Fr κ [] nt g w ⟨[], env, st, b', l'⟩ a :=
  ⟨F.size, F.len, F.env, fun d t h => by simp at h, fun d t h => by simp at h, F.nd, F.bd, F.df⟩

theorem clr_length : ∀ {bs : List Bool} {vs : List V}, bs.length = vs.length → (clr bs vs).length = vs.length
  | [], [], _ => rfl
  | true :: bs, v :: vs, h => by simp only [clr, List.length_cons]; rw [clr_length (by simpa using h)]
  | false :: bs, v :: vs, h => by simp only [clr, List.length_cons]; rw [clr_length (by simpa using h)]
  | [], _ :: _, h => by simp at h
  | _ :: _, [], h => by simp at h
theorem clr_get : ∀ {bs : List Bool} {vs : List V} {i : Nat}, (clr bs vs).getD i vun = vs.getD i vun ∨ (clr bs vs).getD i vun = vun
  | [], vs, i => .inr (by simp [clr])
  | true :: bs, [], i => .inr (by simp [clr])
  | false :: bs, [], i => .inr (by simp [clr])
  | true :: bs, v :: vs, 0 => .inl (by simp [clr])
  | false :: bs, v :: vs, 0 => .inr (by simp [clr])
  | true :: bs, v :: vs, i + 1 => by simpa [clr] using clr_get (bs := bs) (vs := vs) (i := i)
  | false :: bs, v :: vs, i + 1 => by simpa [clr] using clr_get (bs := bs) (vs := vs) (i := i)
theorem Fr.clr {env : List V} {st : Store} {b l : Nat} {bs : List Bool} (F : Fr κ [] nt g w ⟨[], env, st, b, l⟩ a) (hb : bs.length = κ.length) : Fr κ [] nt g w ⟨[], Go.A.clr bs env, st, b, l⟩ a :=
  ⟨F.size, by
    have := F.len
    simp only at this
    show (Go.A.clr bs env).length = _
    rw [clr_length (by rw [hb]; exact this.symm)]
    exact this, fun i t h => by
    have := F.env i t h
    simp only at this ⊢
    rcases clr_get (bs := bs) (vs := env) (i := i) with e | e
    · rw [e]; exact this
    · rw [e]; simp only [vun, vrel, crel], fun d t h => by simp at h, fun d t h => by simp at h, F.nd, F.bd, F.df⟩

theorem lts_getD {n : Nat} : ∀ {vs : List V} {i : Nat}, V.lts n vs = true → (vs.getD i vun).lt n = true
  | [], i, _ => by simp [vun, V.lt, C.lt]
  | v :: vs, 0, h => by
    simp only [V.lts, Bool.and_eq_true] at h
    simpa using h.1
  | v :: vs, i + 1, h => by
    simp only [V.lts, Bool.and_eq_true] at h
    simpa using lts_getD (vs := vs) (i := i) h.2

theorem at_clear {g0 : G} {w0 : World} {σ0 : Store} {s s' : St} {live : List Bool} {objs : Nat} (hc : Clean g0 σ0.length) (hb : σ0.length ≤ s.base) (hl : live.length = κ.length) (h : s.clear live objs = some s') (A : At' g0 w0 σ0 κ nt g w s a) : ∃ g', At' g0 w0 σ0 κ nt g' w s' a := by
  unfold St.clear at h
  rw [Option.map_eq_some_iff] at h
  obtain ⟨σ', h, rfl⟩ := h
  have F1 := A.fr.clr (bs := live) hl
  unfold dropSt at h
  split at h
  · injection h with h
    subst h
    exact ⟨g, A.ext, A.rel, F1⟩
  · split at h
    · rename_i hlt
      injection h with h
      subst h
      simp only [Bool.and_eq_true] at hlt
      refine ⟨g.drop (s.base + objs) w, ext_drop A.ext hc (by omega), rel_drop A.rel hlt.2, ⟨F1.size, F1.len, fun i t ht => ?_, fun d t h => by simp at h, fun d t h => by simp at h, F1.nd, F1.bd, F1.df⟩⟩
      exact vrel_drop _ _ (F1.env i t ht) (lts_getD hlt.1)
    · cases h
end
end Go.A
