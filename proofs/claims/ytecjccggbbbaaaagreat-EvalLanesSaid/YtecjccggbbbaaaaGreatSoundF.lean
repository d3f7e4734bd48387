/- Regions with a draw: the check. -/
import Derived.Test.YtecjccggbbbaaaaGreatSoundE
set_option linter.unusedVariables false
set_option linter.unusedSimpArgs false
namespace Go.A

/-! ### What goes before what -/
def maskOf (ms : List Nat) : List Nat → Nat → Nat
  | [], s => s
  | i :: es, s => maskOf ms es (s ||| (2 ^ i ||| ms.getD i 0))
def masksUpto : List Go.Oper → List Nat → List Nat
  | [], acc => acc
  | o :: os, acc => masksUpto os (acc ++ [maskOf acc (edges o) 0])
def okMasks (gops : Array Go.Oper) (ms : List Nat) : Bool :=
  (List.range gops.size).all fun j => (ms.getD j 0 == maskOf ms (edgesAt gops j) 0) && (edgesAt gops j).all fun i => decide (i < j)
def bit (ms : List Nat) (j i : Nat) : Bool := (ms.getD j 0).testBit i

theorem maskOf_bit {ms : List Nat} {i : Nat} : ∀ {es : List Nat} {s : Nat}, (maskOf ms es s).testBit i = true → s.testBit i = true ∨ ∃ e ∈ es, e = i ∨ bit ms e i = true
  | [], s, h => .inl h
  | e :: es, s, h => by
    simp only [maskOf] at h
    rcases maskOf_bit h with h | ⟨e', he', h⟩
    · simp only [Nat.testBit_or, Bool.or_eq_true, Nat.testBit_two_pow, decide_eq_true_eq] at h
      rcases h with h | h | h
      · exact .inl h
      · exact .inr ⟨e, by simp, .inl h⟩
      · exact .inr ⟨e, by simp, .inr h⟩
    · exact .inr ⟨e', by simp [he'], h⟩
theorem okMasks_at {gops : Array Go.Oper} {ms : List Nat} (h : okMasks gops ms = true) {j : Nat} (hj : j < gops.size) : ms.getD j 0 = maskOf ms (edgesAt gops j) 0 ∧ ∀ i ∈ edgesAt gops j, i < j := by
  unfold okMasks at h
  have := List.all_eq_true.1 h j (by simpa using hj)
  simp only [Bool.and_eq_true, beq_iff_eq] at this
  exact ⟨this.1, fun i hi => by simpa using List.all_eq_true.1 this.2 i hi⟩
theorem bit_reach {gops : Array Go.Oper} {ms : List Nat} (h : okMasks gops ms = true) {i : Nat} : ∀ (j : Nat), j < gops.size → bit ms j i = true → Reach gops j i := by
  intro j
  induction j using Nat.strongRecOn with
  | _ j ih =>
    intro hj hb
    obtain ⟨h1, h2⟩ := okMasks_at h hj
    unfold bit at hb
    rw [h1] at hb
    rcases maskOf_bit hb with hb | ⟨e, he, hb⟩
    · simp at hb
    · rcases hb with rfl | hb
      · exact .edge he
      · exact .more he (ih e (h2 e he) (by have := h2 e he; omega) hb)

/-! ### Which operations may change places -/
def free (c c' : Nat) : Bool := c == 0 || c' == 0 || (decide (c ≤ 2) && decide (c' ≤ 2)) || (c == 1 && c' == 3) || (c == 3 && c' == 1) || (decide (c ≤ 2) && c' == 4) || (c == 4 && decide (c' ≤ 2))
def writes : Oper → Option Nat
  | ⟨.slot q, _, _⟩ => some q
  | _ => none
def readsSlot (q : Nat) (x : Oper) : Bool := (stepX x).any fun
  | .s q' => q' == q
  | _ => false
def envFree (x y : Oper) : Bool :=
  (match writes x with
    | some q => !readsSlot q y && (match writes y with
      | some q' => q' != q
      | none => true)
    | none => true) &&
  (match writes y with
    | some q => !readsSlot q x
    | none => true)
def cls (xs : List Oper) (j : Nat) : Nat := match xs[j]? with
  | some x => opCls x.op
  | none => 0
/-- An operand that stands for something. -/
def useOk (loc : List (Option Tmp)) : X → Bool
  | .l d => match loc[d]? with
    | some (some t) => (loc.take d).all (· != some t)
    | _ => false
  | .s _ => true
  | .c v => v.lt 0
def chkPair (ms : List Nat) (xs : List Oper) (i j : Nat) : Bool := match xs[i]?, xs[j]? with
  | some x, some y => ((free (opCls x.op) (opCls y.op) && envFree x y) || bit ms j i) && (match writes x, writes y with
    | some q, some q' => q != q'
    | _, _ => true)
  | _, _ => false
def chkPre (P : Program) (κ : List Tmp) (nt : Nat) (gops : Array Go.Oper) (xs : List Oper) (ms : List Nat) (j : Nat) : Bool := match gops[j]?, xs[j]? with
  | some o, some x => okD κ nt o.dst x.dst && okGuard κ (locAft gops xs j) gops o.guard x.guard && chkOp P κ (locAft gops xs j) o x.dst x.op && (stepX x).all (useOk (locAft gops xs j)) && (List.range j).all fun i => chkPair ms xs i j
  | _, _ => false
def chkTail (P : Program) (κ : List Tmp) (nt : Nat) (gops : Array Go.Oper) (xs : List Oper) (ms : List Nat) (j : Nat) : Bool := match gops[j]?, xs[j]? with
  | some o, some x => okD κ nt o.dst x.dst && okGuard κ (locFull gops xs j) gops o.guard x.guard && chkOp P κ (locFull gops xs j) o x.dst x.op && (List.range j).all fun i => bit ms j i
  | _, _ => false
def tailFrom (ms : List Nat) : Nat → Nat
  | 0 => 0
  | n + 1 => if (List.range n).all (fun i => bit ms n i) then tailFrom ms n else n + 1
def locs (gops : Array Go.Oper) (xs : List Oper) (p : Nat) : List Tmp := (List.range p).filterMap (lo gops xs)
def chkDraw (P : Program) : List Tmp → Nat → Array Go.Oper → List Oper → Bool := fun κ nt gops xs =>
  let ms := masksUpto gops.toList []
  let p := tailFrom ms gops.size
  okMasks gops ms && xs.length == gops.size && decide (p ≤ gops.size) && noDup (locs gops xs p) && (List.range p).all (chkPre P κ nt gops xs ms) && (List.range gops.size).all fun j => decide (j < p) || chkTail P κ nt gops xs ms j

section
variable {P : Program} {κ : List Tmp} {nt : Nat} {gops : Array Go.Oper} {xs : List Oper} {ms : List Nat} {p : Nat}

theorem noDup_locs : ∀ {l : List Nat}, noDup (l.filterMap (lo gops xs)) = true → l.Nodup → ∀ i ∈ l, ∀ j ∈ l, ∀ t, lo gops xs i = some t → lo gops xs j = some t → i = j
  | [], _, _, i, hi, _, _, _, _, _ => by simp at hi
  | x :: l, h, hn, i, hi, j, hj, t, h1, h2 => by
    rw [List.nodup_cons] at hn
    have tailN : noDup (l.filterMap (lo gops xs)) = true := by
      rw [List.filterMap_cons] at h
      split at h
      · exact h
      · simp only [noDup, Bool.and_eq_true] at h; exact h.2
    have clash : ∀ k ∈ l, ∀ t, lo gops xs x = some t → lo gops xs k = some t → False := fun k hk t hx hk' => by
      rw [List.filterMap_cons, hx] at h
      simp only [noDup, Bool.and_eq_true, Bool.not_eq_true'] at h
      have : t ∈ l.filterMap (lo gops xs) := List.mem_filterMap.2 ⟨k, hk, hk'⟩
      simp [this] at h
    rcases List.mem_cons.1 hi with e1 | hi'
    · rcases List.mem_cons.1 hj with e2 | hj'
      · rw [e1, e2]
      · exact (clash j hj' t (by rw [← e1]; exact h1) h2).elim
    · rcases List.mem_cons.1 hj with e2 | hj'
      · exact (clash i hi' t (by rw [← e2]; exact h2) h1).elim
      · exact noDup_locs tailN hn.2 i hi' j hj' t h1 h2

theorem chkPre_some {j : Nat} (h : chkPre P κ nt gops xs ms j = true) {o : Go.Oper} {x : Oper} (ho : gops[j]? = some o) (hx : xs[j]? = some x) :
    okD κ nt o.dst x.dst = true ∧ okGuard κ (locAft gops xs j) gops o.guard x.guard = true ∧ chkOp P κ (locAft gops xs j) o x.dst x.op = true ∧ (∀ y ∈ stepX x, useOk (locAft gops xs j) y = true) ∧ ∀ i, i < j → chkPair ms xs i j = true := by
  unfold chkPre at h
  rw [ho, hx] at h
  simp only [Bool.and_eq_true] at h
  obtain ⟨⟨⟨⟨h1, h2⟩, h3⟩, h4⟩, h5⟩ := h
  exact ⟨h1, h2, h3, fun y hy => List.all_eq_true.1 h4 y hy, fun i hi => List.all_eq_true.1 h5 i (by simpa using hi)⟩

/-- What the check says, in one. -/
structure Chk (P : Program) (κ : List Tmp) (nt : Nat) (gops : Array Go.Oper) (xs : List Oper) (ms : List Nat) (p : Nat) : Prop where
  masks : okMasks gops ms = true
  len : xs.length = gops.size
  p_le : p ≤ gops.size
  dup : noDup (locs gops xs p) = true
  pre : ∀ j, j < p → chkPre P κ nt gops xs ms j = true
  tail : ∀ j, p ≤ j → j < gops.size → chkTail P κ nt gops xs ms j = true

theorem chk_of (h : chkDraw P κ nt gops xs = true) : ∃ ms p, Chk P κ nt gops xs ms p := by
  unfold chkDraw at h
  simp only [Bool.and_eq_true, beq_iff_eq, decide_eq_true_eq] at h
  obtain ⟨⟨⟨⟨⟨h1, h2⟩, h3⟩, h4⟩, h5⟩, h6⟩ := h
  refine ⟨_, _, h1, h2, h3, h4, fun j hj => List.all_eq_true.1 h5 j (by simpa using hj), fun j hj hlt => ?_⟩
  have := List.all_eq_true.1 h6 j (by simpa using hlt)
  simp only [Bool.or_eq_true, decide_eq_true_eq] at this
  rcases this with h | h
  · omega
  · exact h

theorem Chk.plan (C : Chk P κ nt gops xs ms p) : Plan P κ nt gops xs p where
  len := C.len
  p_le := C.p_le
  back := fun j o ho i hi => by
    have hj : j < gops.size := (Array.getElem?_eq_some_iff.1 ho).1
    exact (okMasks_at C.masks hj).2 i (by unfold edgesAt; rw [ho]; exact hi)
  pre := fun j o x hj ho hx => (chkPre_some (C.pre j hj) ho hx).1
  apart := fun i j t hi hj h1 h2 => noDup_locs C.dup List.nodup_range i (by simpa using hi) j (by simpa using hj) t h1 h2
  tail := fun j o x hj ho hx => by
    have hlt : j < gops.size := (Array.getElem?_eq_some_iff.1 ho).1
    have h := C.tail j hj hlt
    unfold chkTail at h
    rw [ho, hx] at h
    simp only [Bool.and_eq_true] at h
    obtain ⟨⟨⟨h1, h2⟩, h3⟩, h4⟩ := h
    exact ⟨h1, h2, h3, fun i hi => bit_reach C.masks j hlt (List.all_eq_true.1 h4 i (by simpa using hi))⟩

theorem Chk.pair (C : Chk P κ nt gops xs ms p) {i j : Nat} (hij : i < j) (hj : j < p) {x y : Oper} (hx : xs[i]? = some x) (hy : xs[j]? = some y) :
    ((free (opCls x.op) (opCls y.op) = true ∧ envFree x y = true) ∨ Reach gops j i) ∧ ∀ q, writes x = some q → writes y ≠ some q := by
  have hlt : j < gops.size := Nat.lt_of_lt_of_le hj C.p_le
  have h := (chkPre_some (C.pre j hj) (Array.getElem?_eq_getElem hlt) hy).2.2.2.2 i hij
  unfold chkPair at h
  rw [hx, hy] at h
  simp only [Bool.and_eq_true, Bool.or_eq_true] at h
  obtain ⟨h1, h2⟩ := h
  refine ⟨h1.imp id fun h => bit_reach C.masks j hlt h, fun q hq hq' => ?_⟩
  rw [hq, hq'] at h2
  simp at h2

/-! ### The machine's run, in the order of the text -/
variable {Cf : Caller} {rr : Nat → R}

def valAt (rr : Nat → R) (j : Nat) : V := (rr (j + 1)).rs.headD vun
theorem run_step (hrr : ∀ i x, xs[i]? = some x → step Cf (rr i) x = some (rr (i + 1))) {j : Nat} {x : Oper} (hx : xs[j]? = some x) :
    ∃ v σ1, rr (j + 1) = ((rr j).at σ1).put x.dst v ∧ EffOk' (opCls x.op) (rr j).st σ1 := by
  obtain ⟨v, σ1, h1, _, h3⟩ := step_eff (r' := rr j) (fun _ _ => rfl) rfl (hrr j x hx)
  exact ⟨v, σ1, h1, h3⟩
theorem run_rs (hrr : ∀ i x, xs[i]? = some x → step Cf (rr i) x = some (rr (i + 1))) (h0 : (rr 0).rs = []) : ∀ j, j ≤ xs.length → (rr j).rs = (List.range j).reverse.map (valAt rr)
  | 0, _ => by simpa using h0
  | j + 1, hj => by
    have ih := run_rs hrr h0 j (by omega)
    obtain ⟨v, σ1, h1, _⟩ := run_step hrr (List.getElem?_eq_getElem (by omega : j < xs.length))
    obtain ⟨y, hy⟩ := put_rs ((rr j).at σ1) xs[j].dst v
    rw [List.range_succ, List.reverse_append]
    simp only [List.reverse_cons, List.reverse_nil, List.nil_append, List.map_append, List.map_cons, List.map_nil, List.singleton_append]
    have e : (rr (j + 1)).rs = y :: (rr j).rs := by rw [h1]; exact hy
    have e2 : valAt rr j = y := by unfold valAt; rw [e]; rfl
    rw [e, e2, ih]

/-- The slot's writer. -/
def wr (xs : List Oper) (p q : Nat) : Option Nat := (List.range p).find? fun k => match xs[k]? with
  | some x => writes x == some q
  | none => false
theorem wr_some {q k : Nat} (h : wr xs p q = some k) : k < p ∧ ∃ x, xs[k]? = some x ∧ writes x = some q := by
  unfold wr at h
  have h1 := List.find?_some h
  have h2 := List.mem_of_find?_eq_some h
  refine ⟨by simpa using h2, ?_⟩
  split at h1
  · rename_i x hx; exact ⟨x, hx, by simpa using h1⟩
  · cases h1
/-- Each slot is written once at most. -/
structure ChkW (xs : List Oper) (p : Nat) : Prop where
  le : p ≤ xs.length
  ww : ∀ {i j : Nat}, i < j → j < p → ∀ {x y : Oper}, xs[i]? = some x → xs[j]? = some y → ∀ q, writes x = some q → writes y ≠ some q
theorem Chk.w (C : Chk P κ nt gops xs ms p) : ChkW xs p := ⟨by rw [C.len]; exact C.p_le, fun hij hj _ _ hx hy => (C.pair hij hj hx hy).2⟩
theorem wr_of (C : ChkW xs p) {q k : Nat} {x : Oper} (hk : k < p) (hx : xs[k]? = some x) (hw : writes x = some q) : wr xs p q = some k := by
  cases h : wr xs p q with
  | none =>
    unfold wr at h
    rw [List.find?_eq_none] at h
    have := h k (by simpa using hk)
    rw [hx] at this
    simp [hw] at this
  | some k' =>
    obtain ⟨h1, x', h2, h3⟩ := wr_some h
    rcases Nat.lt_trichotomy k k' with hlt | rfl | hlt
    · exact absurd h3 (C.ww hlt h1 hx h2 q hw)
    · rfl
    · exact absurd hw (C.ww hlt hk h2 hx q h3)

def envAt (rr : Nat → R) (xs : List Oper) (p : Nat) (D : Nat → Bool) (q : Nat) : V := match wr xs p q with
  | some k => if D k then (rr (k + 1)).env.getD q vun else (rr 0).env.getD q vun
  | none => (rr 0).env.getD q vun
def envOf (rr : Nat → R) (xs : List Oper) (p : Nat) (D : Nat → Bool) : List V := (List.range (rr 0).env.length).map (envAt rr xs p D)

theorem run_env (C : ChkW xs p) (hrr : ∀ i x, xs[i]? = some x → step Cf (rr i) x = some (rr (i + 1))) : ∀ j, j ≤ p → (rr j).env.length = (rr 0).env.length ∧ ∀ q, (rr j).env.getD q vun = envAt rr xs p (fun k => decide (k < j)) q
  | 0, _ => ⟨rfl, fun q => by
    unfold envAt
    split <;> simp⟩
  | j + 1, hj => by
    obtain ⟨ih1, ih2⟩ := run_env C hrr j (by omega)
    have hlt : j < xs.length := by have := C.le; omega
    have hx : xs[j]? = some xs[j] := List.getElem?_eq_getElem hlt
    obtain ⟨v, σ1, h1, _⟩ := run_step hrr hx
    have henv := put_env ((rr j).at σ1) xs[j].dst v
    rw [← h1] at henv
    refine ⟨?_, fun q => ?_⟩
    · rw [henv]
      split
      · simp [R.at, ih1]
      · exact ih1
    · by_cases hw : writes xs[j] = some q
      · have hwr := wr_of C (by omega : j < p) hx hw
        unfold envAt
        rw [hwr]
        simp
      · have hkeep : (rr (j + 1)).env.getD q vun = (rr j).env.getD q vun := by
          rw [henv]
          split
          · rename_i t ht
            have hne : t ≠ q := fun e => hw (by
              subst e
              have : xs[j] = ⟨.slot t, xs[j].op, xs[j].guard⟩ := by
                cases hxx : xs[j] with
                | mk d op g => rw [hxx] at ht; simp only at ht; rw [ht]
              rw [this]; rfl)
            simp only [List.getD_eq_getElem?_getD, List.getElem?_set_ne hne, R.at]
          · rfl
        rw [hkeep, ih2]
        unfold envAt
        split
        · rename_i k hk
          obtain ⟨q1, x', q2, q3⟩ := wr_some hk
          have hne : k ≠ j := fun e => by subst e; rw [hx] at q2; injection q2 with q2; rw [← q2] at q3; exact hw q3
          by_cases hkj : k < j
          · simp only [decide_eq_true_eq, if_pos hkj, if_pos (by omega : k < j + 1)]
          · simp only [decide_eq_true_eq, if_neg hkj, if_neg (by omega : ¬ k < j + 1)]
        · rfl
theorem envOf_getD {D : Nat → Bool} {q : Nat} (C : ChkW xs p) (hrr : ∀ i x, xs[i]? = some x → step Cf (rr i) x = some (rr (i + 1))) : (envOf rr xs p D).getD q vun = envAt rr xs p D q := by
  unfold envOf
  by_cases hq : q < (rr 0).env.length
  · simp [List.getD_eq_getElem?_getD, hq]
  · have e0 : (rr 0).env.getD q vun = vun := by simp [List.getD_eq_getElem?_getD, hq]
    have e1 : ((List.range (rr 0).env.length).map (envAt rr xs p D)).getD q vun = vun := by simp [List.getD_eq_getElem?_getD, hq]
    rw [e1]
    unfold envAt
    split
    · rename_i k hk
      obtain ⟨q1, _⟩ := wr_some hk
      have hl := (run_env C hrr (k + 1) (by omega)).1
      split
      · simp [List.getD_eq_getElem?_getD, hl, hq]
      · exact e0.symm
    · exact e0.symm

/-- The store, when some operations have been done. -/
def lastE (xs : List Oper) (D : Nat → Bool) : Nat → Nat
  | 0 => 0
  | n + 1 => if D n && decide (3 ≤ cls xs n) then n + 1 else lastE xs D n
def stOf (rr : Nat → R) (xs : List Oper) (p : Nat) (D : Nat → Bool) : Store := (rr (lastE xs D p)).st
theorem lastE_le (D : Nat → Bool) : ∀ n, lastE xs D n ≤ n
  | 0 => Nat.le_refl _
  | n + 1 => by
    have := lastE_le D n
    simp only [lastE]
    split <;> omega
theorem lastE_is (D : Nat → Bool) : ∀ n, lastE xs D n = 0 ∨ ∃ k, lastE xs D n = k + 1 ∧ D k = true ∧ 3 ≤ cls xs k
  | 0 => .inl rfl
  | n + 1 => by
    simp only [lastE]
    split
    · rename_i h
      simp only [Bool.and_eq_true, decide_eq_true_eq] at h
      exact .inr ⟨n, rfl, h⟩
    · exact lastE_is D n
theorem lastE_after (D : Nat → Bool) : ∀ n k, lastE xs D n ≤ k → k < n → ¬ (D k = true ∧ 3 ≤ cls xs k)
  | 0, k, _, h => by omega
  | n + 1, k, h1, h2 => by
    simp only [lastE] at h1
    split at h1
    · omega
    · rename_i h
      rcases Nat.lt_or_ge k n with hk | hk
      · exact lastE_after D n k h1 hk
      · have : k = n := by omega
        subst this
        intro ⟨a, b⟩
        exact h (by simp [a, b])
end
end Go.A

/- Regions with a draw: the check is enough. -/
namespace Go.A

theorem vrel_lt {g : G} {w : World} {σ : Store} : ∀ (v : V) (u : Value), vrel g w σ v u → v.lt σ.length = true
  | .one c, u, h => by
    simp only [vrel] at h
    simp only [V.lt]
    exact crel_lt c u h
  | .agg cs, u, h => by
    simp only [vrel] at h
    obtain ⟨us, _, h2⟩ := h
    simp only [V.lt]
    exact crels_lt cs _ h2
  | .tup vs, u, h => by
    simp only [vrel] at h
    obtain ⟨us, _, h2⟩ := h
    simp only [V.lt]
    exact go vs _ h2
  where go : ∀ (vs : List V) (us : List Value), vrels g w σ vs us → V.lts σ.length vs = true
  | [], _, _ => rfl
  | v :: vs, us, h => by
    simp only [vrels] at h
    obtain ⟨x, xs, _, h1, h2⟩ := h
    simp only [V.lts, Bool.and_eq_true]
    exact ⟨vrel_lt v x h1, go vs xs h2⟩

mutual
theorem C.lt_mono {n m : Nat} (h : n ≤ m) : ∀ c : C, c.lt n = true → c.lt m = true
  | .f _, _ => by simp [C.lt]
  | .ap t _ _, hc => by simp [C.lt] at hc ⊢; omega
  | .ptr id _ _ _, hc => by simp [C.lt] at hc ⊢; omega
  | .fp _ _, _ => by simp [C.lt]
  | .own id _ _ _, hc => by simp [C.lt] at hc ⊢; omega
  | .map id, hc => by simp [C.lt] at hc ⊢; omega
  | .fn _ a b, hc => by
    simp only [C.lt, Bool.and_eq_true] at hc ⊢
    exact ⟨C.lts_mono h a hc.1, C.lts_mono h b hc.2⟩
  | .un, _ => by simp [C.lt]
theorem C.lts_mono {n m : Nat} (h : n ≤ m) : ∀ cs : List C, C.lts n cs = true → C.lts m cs = true
  | [], _ => rfl
  | c :: cs, hc => by
    simp only [C.lts, Bool.and_eq_true] at hc ⊢
    exact ⟨C.lt_mono h c hc.1, C.lts_mono h cs hc.2⟩
end
mutual
theorem V.lt_mono {n m : Nat} (h : n ≤ m) : ∀ c : V, c.lt n = true → c.lt m = true
  | .one c, hc => by
    simp only [V.lt] at hc ⊢
    exact C.lt_mono h c hc
  | .agg cs, hc => by
    simp only [V.lt] at hc ⊢
    exact C.lts_mono h cs hc
  | .tup vs, hc => by
    simp only [V.lt] at hc ⊢
    exact V.lts_mono h vs hc
theorem V.lts_mono {n m : Nat} (h : n ≤ m) : ∀ cs : List V, V.lts n cs = true → V.lts m cs = true
  | [], _ => rfl
  | c :: cs, hc => by
    simp only [V.lts, Bool.and_eq_true] at hc ⊢
    exact ⟨V.lt_mono h c hc.1, V.lts_mono h cs hc.2⟩
end

theorem free_big {c c' : Nat} (h : free c c' = true) : c ≤ 2 ∨ c' ≤ 2 := by
  unfold free at h
  simp only [Bool.or_eq_true, Bool.and_eq_true, beq_iff_eq, decide_eq_true_eq] at h
  omega
theorem free_two {c : Nat} (h : free 2 c = true ∨ free c 2 = true) : c ≤ 2 ∨ c = 4 := by
  unfold free at h
  simp only [Bool.or_eq_true, Bool.and_eq_true, beq_iff_eq, decide_eq_true_eq] at h
  omega
theorem free_one {c : Nat} (h : free 1 c = true ∨ free c 1 = true) : c ≤ 4 := by
  unfold free at h
  simp only [Bool.or_eq_true, Bool.and_eq_true, beq_iff_eq, decide_eq_true_eq] at h
  omega

section
variable {P : Program} {κ : List Tmp} {nt : Nat} {gops : Array Go.Oper} {xs : List Oper} {ms : List Nat} {p b l : Nat} {Cf : Caller} {rr : Nat → R}

theorem run_st (hrr : ∀ i x, xs[i]? = some x → step Cf (rr i) x = some (rr (i + 1))) {j : Nat} {x : Oper} (hx : xs[j]? = some x) : EffOk' (opCls x.op) (rr j).st (rr (j + 1)).st := by
  obtain ⟨v, σ1, h1, h2⟩ := run_step hrr hx
  rw [h1, put_st]
  exact h2
theorem cls_of {j : Nat} {x : Oper} (hx : xs[j]? = some x) : cls xs j = opCls x.op := by unfold cls; rw [hx]

theorem run_same (hrr : ∀ i x, xs[i]? = some x → step Cf (rr i) x = some (rr (i + 1))) {a : Nat} : ∀ n, a + n ≤ xs.length → (∀ k, a ≤ k → k < a + n → ¬ 3 ≤ cls xs k) → (rr (a + n)).st = (rr a).st
  | 0, _, _ => rfl
  | n + 1, hn, h => by
    have ih := run_same hrr n (by omega) fun k h1 h2 => h k h1 (by omega)
    have hx : xs[a + n]? = some (xs[a + n]'(by omega)) := List.getElem?_eq_getElem (by omega)
    have hc := h (a + n) (by omega) (by omega)
    rw [cls_of hx] at hc
    rcases run_st hrr hx with e | e
    · rw [← Nat.add_assoc, e, ih]
    · rw [← Nat.add_assoc, e.1 (by omega), ih]
theorem run_grow (hrr : ∀ i x, xs[i]? = some x → step Cf (rr i) x = some (rr (i + 1))) {a : Nat} : ∀ n, a + n ≤ xs.length → (∀ k, a ≤ k → k < a + n → cls xs k ≤ 2 ∨ cls xs k = 4) → ∃ os, (rr (a + n)).st = (rr a).st ++ os
  | 0, _, _ => ⟨[], by simp⟩
  | n + 1, hn, h => by
    obtain ⟨os, ih⟩ := run_grow hrr n (by omega) fun k h1 h2 => h k h1 (by omega)
    have hx : xs[a + n]? = some (xs[a + n]'(by omega)) := List.getElem?_eq_getElem (by omega)
    have hc := h (a + n) (by omega) (by omega)
    rw [cls_of hx] at hc
    rw [← Nat.add_assoc]
    rcases run_st hrr hx with e | e
    · exact ⟨os, by rw [e, ih]⟩
    · rcases hc with hc | hc
      · exact ⟨os, by rw [e.1 hc, ih]⟩
      · obtain ⟨os', e'⟩ := e.2.2 hc
        exact ⟨os ++ os', by rw [e', ih, List.append_assoc]⟩
theorem run_rows (hrr : ∀ i x, xs[i]? = some x → step Cf (rr i) x = some (rr (i + 1))) {a : Nat} : ∀ n, a + n ≤ xs.length → (∀ k, a ≤ k → k < a + n → cls xs k ≤ 4) →
    (rr a).st.length ≤ (rr (a + n)).st.length ∧ (∀ q, SameRow q (rr a).st (rr (a + n)).st) ∧ ∀ q, q ≤ (rr a).st.length → SameRow q (rr (a + n)).st (rr a).st
  | 0, _, _ => ⟨Nat.le_refl _, fun q => ⟨fun id ver sz o _ ho hr => ⟨o, ho, hr⟩⟩, fun q _ => ⟨fun id ver sz o _ ho hr => ⟨o, ho, hr⟩⟩⟩
  | n + 1, hn, h => by
    obtain ⟨ih0, ih1, ih2⟩ := run_rows hrr n (by omega) fun k h1 h2 => h k h1 (by omega)
    have hx : xs[a + n]? = some (xs[a + n]'(by omega)) := List.getElem?_eq_getElem (by omega)
    have hc := h (a + n) (by omega) (by omega)
    rw [cls_of hx] at hc
    rw [← Nat.add_assoc]
    have key : (rr (a + n)).st.length ≤ (rr (a + n + 1)).st.length ∧ (∀ q, SameRow q (rr (a + n)).st (rr (a + n + 1)).st) ∧ ∀ q, q ≤ (rr (a + n)).st.length → SameRow q (rr (a + n + 1)).st (rr (a + n)).st := by
      have same : (rr (a + n + 1)).st = (rr (a + n)).st → (rr (a + n)).st.length ≤ (rr (a + n + 1)).st.length ∧ (∀ q, SameRow q (rr (a + n)).st (rr (a + n + 1)).st) ∧ ∀ q, q ≤ (rr (a + n)).st.length → SameRow q (rr (a + n + 1)).st (rr (a + n)).st := fun e => by
        rw [e]
        exact ⟨Nat.le_refl _, fun q => ⟨fun id ver sz o _ ho hr => ⟨o, ho, hr⟩⟩, fun q _ => ⟨fun id ver sz o _ ho hr => ⟨o, ho, hr⟩⟩⟩
      rcases run_st hrr hx with e | e
      · exact same e
      · rcases Nat.lt_or_ge (opCls (xs[a + n]'(by omega)).op) 3 with h3 | h3
        · exact same (e.1 (by omega))
        · rcases Nat.lt_or_ge (opCls (xs[a + n]'(by omega)).op) 4 with h4 | h4
          · obtain ⟨q1, q2⟩ := e.2.1 (by omega)
            exact ⟨by omega, fun q => (q2 q).1, fun q _ => (q2 q).2⟩
          · obtain ⟨os, e'⟩ := e.2.2 (by omega)
            rw [e']
            refine ⟨by simp, fun q => ⟨fun id ver sz o _ ho hr => ⟨o, by rw [List.getElem?_append_left (lt_of_some ho)]; exact ho, hr⟩⟩, fun q hq => ⟨fun id ver sz o hid ho hr => ⟨o, ?_, hr⟩⟩⟩
            rw [List.getElem?_append_left (by omega)] at ho
            exact ho
    refine ⟨by omega, fun q => ⟨fun id ver sz o hid ho hr => ?_⟩, fun q hq => ⟨fun id ver sz o hid ho hr => ?_⟩⟩
    · obtain ⟨o1, q1, q2⟩ := (ih1 q).row id ver sz o hid ho hr
      exact (key.2.1 q).row id ver sz o1 hid q1 q2
    · obtain ⟨o1, q1, q2⟩ := (key.2.2 q (by omega)).row id ver sz o hid ho hr
      exact (ih2 q hq).row id ver sz o1 hid q1 q2

theorem lastE_quiet {D : Nat → Bool} {j : Nat} (hq : ¬ 3 ≤ cls xs j) : ∀ n, lastE xs (upd' D j) n = lastE xs D n
  | 0 => rfl
  | n + 1 => by
    simp only [lastE, lastE_quiet hq n]
    by_cases h : n = j
    · subst h
      simp [hq]
    · simp [upd', h]
theorem lastE_eff {D : Nat → Bool} {j : Nat} (hj : 3 ≤ cls xs j) : ∀ n, j < n → (∀ k, j < k → k < n → ¬ (D k = true ∧ 3 ≤ cls xs k)) → lastE xs (upd' D j) n = j + 1
  | 0, h, _ => by omega
  | n + 1, h, hno => by
    simp only [lastE]
    by_cases e : n = j
    · subst e
      simp [upd', hj]
    · have hne := hno n (by omega) (by omega)
      have hu : upd' D j n = D n := by simp [upd', e]
      rw [hu, if_neg (by simpa using fun a => by simpa [a] using hne)]
      exact lastE_eff hj n (by omega) fun k h1 h2 => hno k h1 (by omega)

theorem envOf_upd (C : ChkW xs p) (hrr : ∀ i x, xs[i]? = some x → step Cf (rr i) x = some (rr (i + 1))) {D : Nat → Bool} {j : Nat} {x : Oper} (hj : j < p) (hx : xs[j]? = some x) {v : V} {σ1 : Store} (hv : rr (j + 1) = ((rr j).at σ1).put x.dst v) :
    envOf rr xs p (upd' D j) = match x.dst with
      | .slot t => (envOf rr xs p D).set t v
      | _ => envOf rr xs p D := by
  have hother : ∀ q, writes x ≠ some q → envAt rr xs p (upd' D j) q = envAt rr xs p D q := fun q hq => by
    unfold envAt
    split
    · rename_i k hk
      obtain ⟨_, x', h2, h3⟩ := wr_some hk
      have hne : k ≠ j := fun e => by subst e; rw [hx] at h2; injection h2 with h2; subst h2; exact hq h3
      have : upd' D j k = D k := by simp [upd', hne]
      rw [this]
    · rfl
  obtain ⟨d, op, gd⟩ := x
  cases d with
  | slot t =>
    have hw : writes ⟨.slot t, op, gd⟩ = some t := rfl
    have hwr := wr_of C hj hx hw
    refine List.ext_getElem? fun q => ?_
    rw [List.getElem?_set]
    by_cases hq : q < (rr 0).env.length
    · by_cases e : t = q
      · subst e
        rw [if_pos rfl, if_pos (by simpa [envOf] using hq)]
        unfold envOf
        rw [List.getElem?_map, List.getElem?_range hq]
        simp only [Option.map_some]
        unfold envAt
        rw [hwr]
        have h1 : upd' D j j = true := by simp [upd']
        simp only [h1, if_true]
        rw [hv]
        have hl := (run_env C hrr j (by omega)).1
        simp [R.put, R.at, List.getD_eq_getElem?_getD, hl, hq]
      · rw [if_neg e]
        unfold envOf
        rw [List.getElem?_map, List.getElem?_map, List.getElem?_range hq]
        simp only [Option.map_some]
        rw [hother q (by rw [hw]; simpa using e)]
    · have h1 : (envOf rr xs p (upd' D j))[q]? = none := List.getElem?_eq_none (by simp [envOf]; omega)
      have h2 : (envOf rr xs p D)[q]? = none := List.getElem?_eq_none (by simp [envOf]; omega)
      rw [h1]
      split
      · rw [if_neg (by simp [envOf]; omega)]
      · exact h2.symm
  | no => exact List.map_congr_left fun q _ => hother q (by simp [writes])
  | loc => exact List.map_congr_left fun q _ => hother q (by simp [writes])

theorem local_ok (S : Sound P Cf) (C : Chk P κ nt gops xs ms p) (hrr : ∀ i x, xs[i]? = some x → step Cf (rr i) x = some (rr (i + 1))) (h0 : (rr 0).rs = []) : Local P κ nt gops xs (valAt rr) (envOf rr xs p) (stOf rr xs p) p b l := by
  intro j o x D g w a next Q hj ho hx hDj hE hcl hDp R0 F k
  have hpN : p ≤ xs.length := by rw [C.len]; exact C.p_le
  obtain ⟨c1, c2, c3, c4, _⟩ := chkPre_some (C.pre j hj) ho hx
  have hA : ∀ i, Reach gops j i → D i = true := fun i h => reach_done hcl h hE
  have hB : ∀ i, Reach gops i j → D i = false := fun i h => by
    cases hi : D i with
    | false => rfl
    | true =>
      have := reach_done hcl h (hcl i hi)
      rw [hDj] at this
      cases this
  let r' : R := ⟨(List.range j).reverse.map (valAt rr), envOf rr xs p D, stOf rr xs p D, b, l⟩
  have hrs := run_rs hrr h0 j (by omega)
  obtain ⟨_, henv⟩ := run_env C.w hrr j (Nat.le_of_lt hj)
  have hget : ∀ y ∈ stepX x, r'.get y = (rr j).get y := fun y hy => by
    cases y with
    | l d => show ((List.range j).reverse.map (valAt rr)).getD d vun = (rr j).rs.getD d vun; rw [hrs]
    | c v => rfl
    | s q =>
      show (envOf rr xs p D).getD q vun = (rr j).env.getD q vun
      rw [envOf_getD C.w hrr, henv]
      unfold envAt
      split
      · rename_i i hi
        obtain ⟨hip, x', hx', hw⟩ := wr_some hi
        have hread : readsSlot q x = true := by
          unfold readsSlot
          rw [List.any_eq_true]
          exact ⟨_, hy, by simp⟩
        have : D i = decide (i < j) := by
          rcases Nat.lt_trichotomy i j with hlt | rfl | hlt
          · rcases (C.pair hlt hj hx' hx).1 with h | h
            · exfalso
              have := h.2
              unfold envFree at this
              rw [hw] at this
              simp [hread] at this
            · rw [hA i h]; simp [hlt]
          · rw [hDj]; simp
          · rcases (C.pair hlt hip hx hx').1 with h | h
            · exfalso
              have := h.2
              unfold envFree at this
              rw [hw] at this
              simp [hread] at this
            · rw [hB i h]; simp; omega
        simp only [this]
      · rfl
  have hlt : ∀ y ∈ stepX x, ((rr j).get y).lt (stOf rr xs p D).length = true := fun y hy => by
    rw [← hget y hy]
    have hu := c4 y hy
    cases y with
    | l d =>
      simp only [useOk] at hu
      split at hu
      · rename_i t ht
        exact vrel_lt _ _ (F.lc d t ht hu)
      · cases hu
    | s q =>
      by_cases hq : q < κ.length
      · exact vrel_lt _ _ (F.env q _ (List.getElem?_eq_getElem hq))
      · have hl := F.len
        have : r'.get (.s q) = vun := by
          show (envOf rr xs p D).getD q vun = vun
          rw [List.getD_eq_getElem?_getD, List.getElem?_eq_none (by simp only at hl; omega)]
          rfl
        rw [this]
        rfl
    | c v => exact V.lt_mono (Nat.zero_le _) v hu
  have finish : ∀ {v : V} {σ1 : Store}, rr (j + 1) = ((rr j).at σ1).put x.dst v → stOf rr xs p (upd' D j) = σ1 → (r'.at σ1).put x.dst v = ⟨valAt rr j :: (List.range j).reverse.map (valAt rr), envOf rr xs p (upd' D j), stOf rr xs p (upd' D j), b, l⟩ := fun {v σ1} h1 h2 => by
    have he := envOf_upd C.w hrr (D := D) hj hx h1
    have hval : valAt rr j = (((rr j).at σ1).put x.dst v).rs.headD vun := by unfold valAt; rw [h1]
    rw [he, h2, hval]
    cases x.dst <;> rfl
  by_cases hc : opCls x.op ≤ 2
  · -- quiet
    have hst : (opCls x.op = 1 → SameRow (stOf rr xs p D).length (rr j).st r'.st) ∧ (opCls x.op = 2 → Same (stOf rr xs p D).length (rr j).st r'.st) := by
      show (opCls x.op = 1 → SameRow (stOf rr xs p D).length (rr j).st (stOf rr xs p D)) ∧ (opCls x.op = 2 → Same (stOf rr xs p D).length (rr j).st (stOf rr xs p D))
      unfold stOf
      have hmp := lastE_le (xs := xs) D p
      rcases Nat.lt_or_ge j (lastE xs D p) with hm | hm
      · -- some later effects have been done
        rcases lastE_is (xs := xs) D p with h | ⟨e, he, hDe, hce⟩
        · omega
        · have hclass : ∀ i, j ≤ i → i < lastE xs D p → cls xs i ≤ 2 ∨ (free (opCls x.op) (cls xs i) = true) := fun i h1 h2 => by
            rcases Nat.lt_or_ge (cls xs i) 3 with h | h
            · exact .inl (by omega)
            · have hij : j ≠ i := fun e' => by subst e'; rw [cls_of hx] at h; omega
              have hxi : xs[i]? = some (xs[i]'(by omega)) := List.getElem?_eq_getElem (by omega)
              have hDi : D i = true := by
                rcases Nat.lt_or_ge i e with hie | hie
                · have hxe : xs[e]? = some (xs[e]'(by omega)) := List.getElem?_eq_getElem (by omega)
                  rcases (C.pair hie (by omega) hxi hxe).1 with hf | hr
                  · have := free_big hf.1
                    rw [cls_of hxi] at h
                    rw [cls_of hxe] at hce
                    omega
                  · exact reach_done hcl hr (hcl e hDe)
                · have : i = e := by omega
                  rw [this]; exact hDe
              rcases (C.pair (by omega : j < i) (by omega) hx hxi).1 with hf | hr
              · exact .inr (by rw [cls_of hxi]; exact hf.1)
              · have := hB i hr
                rw [hDi] at this
                cases this
          obtain ⟨n, hn⟩ : ∃ n, lastE xs D p = j + n := ⟨lastE xs D p - j, by omega⟩
          rw [hn]
          refine ⟨fun hc1 => (run_rows hrr n (by omega) fun i h1 h2 => ?_).2.1 _, fun hc2 => ?_⟩
          · rcases hclass i h1 (by omega) with h | h
            · omega
            · exact free_one (.inl (by rw [← hc1]; exact h))
          · obtain ⟨os, hos⟩ := run_grow hrr (a := j) n (by omega) fun i h1 h2 => by
              rcases hclass i h1 (by omega) with h | h
              · exact .inl h
              · exact free_two (.inl (by rw [← hc2]; exact h))
            rw [hos]
            exact ⟨fun id o _ ho => by rw [List.getElem?_append_left (lt_of_some ho)]; exact ho⟩
      · -- some earlier ones have not
        have hclass : ∀ i, lastE xs D p ≤ i → i < j → cls xs i ≤ 2 ∨ free (cls xs i) (opCls x.op) = true := fun i h1 h2 => by
          rcases Nat.lt_or_ge (cls xs i) 3 with h | h
          · exact .inl (by omega)
          · have hxi : xs[i]? = some (xs[i]'(by omega)) := List.getElem?_eq_getElem (by omega)
            have hno := lastE_after (xs := xs) D p i h1 (by omega)
            rcases (C.pair h2 hj hxi hx).1 with hf | hr
            · exact .inr (by rw [cls_of hxi]; exact hf.1)
            · exact absurd ⟨hA i hr, h⟩ hno
        obtain ⟨n, hn⟩ : ∃ n, j = lastE xs D p + n := ⟨j - lastE xs D p, by omega⟩
        have e1 : (rr j).st = (rr (lastE xs D p + n)).st := by rw [← hn]
        rw [e1]
        refine ⟨fun hc1 => (run_rows hrr n (by omega) fun i h1 h2 => ?_).2.2 _ (Nat.le_refl _), fun hc2 => ?_⟩
        · rcases hclass i h1 (by omega) with h | h
          · omega
          · exact free_one (.inr (by rw [← hc1]; exact h))
        · obtain ⟨os, hos⟩ := run_grow hrr (a := lastE xs D p) n (by omega) fun i h1 h2 => by
            rcases hclass i h1 (by omega) with h | h
            · exact .inl h
            · exact free_two (.inr (by rw [← hc2]; exact h))
          rw [hos]
          exact ⟨fun id o hid ho => by rw [List.getElem?_append_left hid] at ho; exact ho⟩
    obtain ⟨v, h1, h2⟩ := step_quiet (r' := r') hc hget hlt hst.1 hst.2 (hrr j x hx)
    have hq : ¬ 3 ≤ cls xs j := by rw [cls_of hx]; omega
    have hsame : stOf rr xs p (upd' D j) = stOf rr xs p D := by unfold stOf; rw [lastE_quiet hq]
    have hfin : r'.put x.dst v = ⟨valAt rr j :: (List.range j).reverse.map (valAt rr), envOf rr xs p (upd' D j), stOf rr xs p (upd' D j), b, l⟩ := by
      have he := envOf_upd C.w hrr (D := D) (σ1 := (rr j).st) hj hx (by rw [h1]; rfl)
      have hval : valAt rr j = ((rr j).put x.dst v).rs.headD vun := by unfold valAt; rw [h1]
      rw [he, hsame, hval]
      cases x.dst <;> rfl
    rw [hfin] at h2
    exact step_sound (r := r') S R0 F c1 c2 c3 h2 (fun g' w' u H R1 _ F1 => k g' w' u H R1 F1) (fun _ h => h)
  · -- an effect
    have heff : 3 ≤ cls xs j := by rw [cls_of hx]; omega
    have hmp := lastE_le (xs := xs) D p
    have hmj : lastE xs D p ≤ j := by
      rcases lastE_is (xs := xs) D p with h | ⟨e, he, hDe, hce⟩
      · omega
      · rcases Nat.lt_trichotomy e j with h | h | h
        · omega
        · rw [h, hDj] at hDe; cases hDe
        · have hxe : xs[e]? = some (xs[e]'(by omega)) := List.getElem?_eq_getElem (by omega)
          rcases (C.pair h (by omega) hx hxe).1 with hf | hr
          · have := free_big hf.1
            rw [cls_of hxe] at hce
            omega
          · have := hB e hr
            rw [hDe] at this
            cases this
    have hno : ∀ i, lastE xs D p ≤ i → i < j → ¬ 3 ≤ cls xs i := fun i h1 h2 h => by
      have hxi : xs[i]? = some (xs[i]'(by omega)) := List.getElem?_eq_getElem (by omega)
      have hn := lastE_after (xs := xs) D p i h1 (by omega)
      rcases (C.pair h2 hj hxi hx).1 with hf | hr
      · have := free_big hf.1
        rw [cls_of hxi] at h
        omega
      · exact hn ⟨hA i hr, h⟩
    have hst : r'.st = (rr j).st := by
      show (rr (lastE xs D p)).st = (rr j).st
      obtain ⟨n, hn⟩ : ∃ n, j = lastE xs D p + n := ⟨j - lastE xs D p, by omega⟩
      have := run_same hrr (a := lastE xs D p) n (by omega) fun i h1 h2 => hno i h1 (by omega)
      rw [← hn] at this
      exact this.symm
    obtain ⟨v, σ1, h1, h2, _⟩ := step_eff (r' := r') hget hst (hrr j x hx)
    have hlast : lastE xs (upd' D j) p = j + 1 := lastE_eff heff p hj fun i h3 h4 h5 => by
      have := lastE_after (xs := xs) D p i (by omega) h4
      exact this h5
    have hnew : stOf rr xs p (upd' D j) = σ1 := by
      unfold stOf
      rw [hlast, h1, put_st]
      rfl
    rw [finish h1 hnew] at h2
    exact step_sound (r := r') S R0 F c1 c2 c3 h2 (fun g' w' u H R1 _ F1 => k g' w' u H R1 F1) (fun _ h => h)

/-- REGIONS WITH A DRAW ARE SOUND. -/
theorem draws_a (hm : P.follows .mixedOrders = true) (Cf : Caller) (S : Sound P Cf) (κ : List Tmp) (nt id : Nat) (gops : Array Go.Oper) (xs : List Oper) (hchk : chkDraw P κ nt gops xs = true) (r r1 : R) (hr0 : r.rs = []) (hsteps : steps Cf xs r = some r1) : RegOk P κ nt id gops r r1 := by
  intro g w a Q R0 F hend
  obtain ⟨ms, p, C⟩ := chk_of hchk
  obtain ⟨rr, k1, k2, hrr⟩ := steps_seq xs r r1 hsteps
  have h0 : (rr 0).rs = [] := by rw [k1]; exact hr0
  have hpN : p ≤ xs.length := by rw [C.len]; exact C.p_le
  refine wp_region_any hm ?_
  obtain ⟨D1, D2⟩ := drawn R0 1
  have hDof : ∀ i, Dof (Array.replicate gops.size false) i = false := fun i => by
    unfold Dof
    rw [Array.getD_eq_getD_getElem?, Array.getElem?_replicate]
    split <;> rfl
  have hst0 : stOf rr xs p (Dof (Array.replicate gops.size false)) = r.st := by
    unfold stOf
    rcases lastE_is (xs := xs) (Dof (Array.replicate gops.size false)) p with h | ⟨e, _, h, _⟩
    · rw [h, k1]
    · rw [hDof] at h; cases h
  have henv0 : ∀ q, (envOf rr xs p (Dof (Array.replicate gops.size false))).getD q vun = r.env.getD q vun := fun q => by
    rw [envOf_getD C.w hrr]
    unfold envAt
    split <;> simp [hDof, k1]
  have hend' : ∀ g' w' a' loc, Ext g w r.st g' w' (rr gops.size).st → Rel g' w' (rr gops.size).st → Fr κ loc nt g' w' (rr gops.size) a' → Q .normal a' w' := fun g' w' a' loc H R1 F1 => by
    rw [← C.len, k2] at H R1 F1
    exact hend g' w' a' loc H R1 F1
  refine mid_run (b := 0) (l := 0) (v := valAt rr) (envD := envOf rr xs p) (σD := stOf rr xs p) (g0 := g) (w0 := w) (σ0 := r.st) (rr := rr) S C.plan (local_ok S C hrr h0) hrr (run_rs hrr h0 p hpN) (fun D => by simp [envOf, k1, F.len]) F.nd F.bd (fun D hD => ⟨?_, ?_⟩) hend' gops.size (Array.replicate gops.size false) g (w.drewN 1) a (by simp) (fun i _ => hDof i) (fun j hj => by rw [hDof] at hj; cases hj) ?_ ⟨?_, ?_, F.size, F.df, fun i t ht => ?_, fun i t _ hD => by rw [hDof] at hD; cases hD⟩
  · -- all done: the store
    unfold stOf
    have hmp := lastE_le (xs := xs) D p
    obtain ⟨n, hn⟩ : ∃ n, p = lastE xs D p + n := ⟨p - lastE xs D p, by omega⟩
    have := run_same hrr (a := lastE xs D p) n (by omega) fun i h1 h2 h => lastE_after (xs := xs) D p i h1 (by omega) ⟨by rw [hD]; simp; omega, h⟩
    rw [← hn] at this
    exact this.symm
  · -- the slots
    obtain ⟨q1, q2⟩ := run_env C.w hrr p (Nat.le_refl _)
    refine List.ext_getElem? fun q => ?_
    by_cases hq : q < (rr 0).env.length
    · have e1 := envOf_getD (D := D) (q := q) C.w hrr
      have e2 := q2 q
      have e3 : envAt rr xs p D q = envAt rr xs p (fun k => decide (k < p)) q := by
        congr 1
        funext k
        exact hD k
      rw [e3, ← e2] at e1
      rw [List.getD_eq_getElem?_getD, List.getD_eq_getElem?_getD] at e1
      have l1 : q < (envOf rr xs p D).length := by simpa [envOf] using hq
      have l2 : q < (rr p).env.length := by omega
      rw [List.getElem?_eq_getElem l1, List.getElem?_eq_getElem l2] at e1 ⊢
      simpa using e1
    · rw [List.getElem?_eq_none (by simp [envOf]; omega), List.getElem?_eq_none (by omega)]
  · -- the count
    unfold left
    exact Nat.le_trans (List.length_filter_le _ _) (by simp)
  · rw [hst0]; exact D1
  · rw [hst0]; exact D2
  · rw [hst0, henv0]
    exact D1.vrel _ _ (F.env i t ht)
end
end Go.A

/- Regions with a draw, in which variables may be made ahead of their turn, and what is read may be read earlier or later. -/
namespace Go.A

def isAl : Oper → Bool
  | ⟨.loc, .al _ [], none⟩ => true
  | ⟨.slot _, .al _ [], none⟩ => true
  | ⟨.loc, .mks _ none _, none⟩ => true
  | _ => false
def isAlAt (xs : List Oper) (i : Nat) : Bool := match xs[i]? with
  | some x => isAl x
  | none => false
def eff (xs : List Oper) (i : Nat) : Bool := decide (3 ≤ cls xs i)
/-- May the effects stand at K while the operation j has its turn? -/
def canBe (ms : List Nat) (xs : List Oper) (p j K : Nat) : Bool := !(decide (K < p) && bit ms j K) && (List.range K).all fun e => !(eff xs e && bit ms e j)
def harmless (xs : List Oper) (p c j K : Nat) : Bool := (List.range p).all fun i => !(eff xs i) || !(decide (min j K ≤ i) && decide (i < max j K)) || cls xs i == 4 || (c == 1 && decide (cls xs i ≤ 4))
def isLoc : D → Bool
  | .loc => true
  | _ => false
def noCl : Op → Bool
  | .call _ _ _ => false
  | _ => true
def chkRead (ms : List Nat) (xs : List Oper) (ps : List (Nat × Nat)) (p j : Nat) (x : Oper) : Bool :=
  opCls x.op == 0 || decide (3 ≤ opCls x.op) || (List.range (p + 1)).all fun K => !(K == p || eff xs K) || !(canBe ms xs p j K) || harmless xs p (opCls x.op) j K || (ps.contains (j, K) && isLoc x.dst && noCl x.op)
def usesAl (xs : List Oper) (gops : Array Go.Oper) (j i : Nat) (y : Oper) : Bool := (edgesAt gops j).contains i || (match (xs[i]?).bind writes with
  | some q => readsSlot q y
  | none => false)
def chkPair2 (ms : List Nat) (gops : Array Go.Oper) (xs : List Oper) (i j : Nat) : Bool := match xs[i]?, xs[j]? with
  | some x, some y => (envFree x y || bit ms j i) && (match writes x, writes y with
    | some q, some q' => q != q'
    | _, _ => true) && (!(eff xs i && eff xs j) || isAl y || bit ms j i) && (!(isAl x && usesAl xs gops j i y) || (List.range i).all fun e => !(eff xs e) || bit ms j e)
  | _, _ => false
def chkPre2 (P : Program) (κ : List Tmp) (nt : Nat) (gops : Array Go.Oper) (ps : List (Nat × Nat)) (xs : List Oper) (ms : List Nat) (p j : Nat) : Bool := match gops[j]?, xs[j]? with
  | some o, some x => okD κ nt o.dst x.dst && okGuard κ (locAft gops xs j) gops o.guard x.guard && chkOp P κ (locAft gops xs j) o x.dst x.op && (stepX x).all (useOk (locAft gops xs j)) && (List.range j).all (fun i => chkPair2 ms gops xs i j) && chkRead ms xs ps p j x
  | _, _ => false
def chkDraw2 (P : Program) : List Tmp → Nat → Array Go.Oper → List (Nat × Nat) → List Oper → Bool := fun κ nt gops ps xs =>
  let ms := masksUpto gops.toList []
  let p := tailFrom ms gops.size
  okMasks gops ms && xs.length == gops.size && decide (p ≤ gops.size) && noDup (locs gops xs p) && (List.range p).all (chkPre2 P κ nt gops ps xs ms p) && (List.range gops.size).all fun j => decide (j < p) || chkTail P κ nt gops xs ms j

structure Chk2 (P : Program) (κ : List Tmp) (nt : Nat) (gops : Array Go.Oper) (ps : List (Nat × Nat)) (xs : List Oper) (ms : List Nat) (p : Nat) : Prop where
  masks : okMasks gops ms = true
  len : xs.length = gops.size
  p_le : p ≤ gops.size
  dup : noDup (locs gops xs p) = true
  pre : ∀ j, j < p → chkPre2 P κ nt gops ps xs ms p j = true
  tail : ∀ j, p ≤ j → j < gops.size → chkTail P κ nt gops xs ms j = true

section
variable {P : Program} {κ : List Tmp} {nt : Nat} {gops : Array Go.Oper} {ps : List (Nat × Nat)} {xs : List Oper} {ms : List Nat} {p b l : Nat} {Cf : Caller} {rr : Nat → R}

theorem chk2_of (h : chkDraw2 P κ nt gops ps xs = true) : ∃ ms p, Chk2 P κ nt gops ps xs ms p := by
  unfold chkDraw2 at h
  simp only [Bool.and_eq_true, beq_iff_eq, decide_eq_true_eq] at h
  obtain ⟨⟨⟨⟨⟨h1, h2⟩, h3⟩, h4⟩, h5⟩, h6⟩ := h
  refine ⟨_, _, h1, h2, h3, h4, fun j hj => List.all_eq_true.1 h5 j (by simpa using hj), fun j hj hlt => ?_⟩
  have := List.all_eq_true.1 h6 j (by simpa using hlt)
  simp only [Bool.or_eq_true, decide_eq_true_eq] at this
  rcases this with h | h
  · omega
  · exact h

theorem Chk2.pre_some (C : Chk2 P κ nt gops ps xs ms p) {j : Nat} (hj : j < p) {o : Go.Oper} {x : Oper} (ho : gops[j]? = some o) (hx : xs[j]? = some x) :
    okD κ nt o.dst x.dst = true ∧ okGuard κ (locAft gops xs j) gops o.guard x.guard = true ∧ chkOp P κ (locAft gops xs j) o x.dst x.op = true ∧ (∀ y ∈ stepX x, useOk (locAft gops xs j) y = true) ∧ (∀ i, i < j → chkPair2 ms gops xs i j = true) ∧ chkRead ms xs ps p j x = true := by
  have h := C.pre j hj
  unfold chkPre2 at h
  rw [ho, hx] at h
  simp only [Bool.and_eq_true] at h
  obtain ⟨⟨⟨⟨⟨h1, h2⟩, h3⟩, h4⟩, h5⟩, h6⟩ := h
  exact ⟨h1, h2, h3, fun y hy => List.all_eq_true.1 h4 y hy, fun i hi => List.all_eq_true.1 h5 i (by simpa using hi), h6⟩

theorem Chk2.plan (C : Chk2 P κ nt gops ps xs ms p) : Plan P κ nt gops xs p where
  len := C.len
  p_le := C.p_le
  back := fun j o ho i hi => by
    have hj : j < gops.size := (Array.getElem?_eq_some_iff.1 ho).1
    exact (okMasks_at C.masks hj).2 i (by unfold edgesAt; rw [ho]; exact hi)
  pre := fun j o x hj ho hx => (C.pre_some hj ho hx).1
  apart := fun i j t hi hj h1 h2 => noDup_locs C.dup List.nodup_range i (by simpa using hi) j (by simpa using hj) t h1 h2
  tail := fun j o x hj ho hx => by
    have hlt : j < gops.size := (Array.getElem?_eq_some_iff.1 ho).1
    have h := C.tail j hj hlt
    unfold chkTail at h
    rw [ho, hx] at h
    simp only [Bool.and_eq_true] at h
    obtain ⟨⟨⟨h1, h2⟩, h3⟩, h4⟩ := h
    exact ⟨h1, h2, h3, fun i hi => bit_reach C.masks j hlt (List.all_eq_true.1 h4 i (by simpa using hi))⟩

/-- What the check says of two operations. -/
theorem Chk2.pair (C : Chk2 P κ nt gops ps xs ms p) {i j : Nat} (hij : i < j) (hj : j < p) {x y : Oper} (hx : xs[i]? = some x) (hy : xs[j]? = some y) :
    (envFree x y = true ∨ Reach gops j i) ∧ (∀ q, writes x = some q → writes y ≠ some q) ∧ (eff xs i = true → eff xs j = true → isAl y = true ∨ Reach gops j i) ∧
    (isAl x = true → usesAl xs gops j i y = true → ∀ e, e < i → eff xs e = true → Reach gops j e) := by
  have hlt : j < gops.size := Nat.lt_of_lt_of_le hj C.p_le
  have h := (C.pre_some hj (Array.getElem?_eq_getElem hlt) hy).2.2.2.2.1 i hij
  unfold chkPair2 at h
  rw [hx, hy] at h
  simp only [Bool.and_eq_true, Bool.or_eq_true] at h
  obtain ⟨⟨⟨h1, h2⟩, h3⟩, h4⟩ := h
  refine ⟨h1.imp id fun h => bit_reach C.masks j hlt h, fun q hq hq' => ?_, fun he1 he2 => ?_, fun ha hu e he hee => ?_⟩
  · rw [hq, hq'] at h2
    simp at h2
  · rcases h3 with (h3 | h3) | h3
    · simp [he1, he2] at h3
    · exact .inl h3
    · exact .inr (bit_reach C.masks j hlt h3)
  · rcases h4 with h4 | h4
    · simp [ha, hu] at h4
    · have := List.all_eq_true.1 h4 e (by simpa using he)
      simp only [Bool.or_eq_true, Bool.not_eq_true'] at this
      rcases this with h | h
      · rw [hee] at h; cases h
      · exact bit_reach C.masks j hlt h
theorem Chk2.w (C : Chk2 P κ nt gops ps xs ms p) : ChkW xs p := ⟨by rw [C.len]; exact C.p_le, fun hij hj _ _ hx hy => (C.pair hij hj hx hy).2.1⟩

/-! ### The frame while some have been done, and the effects stand at K -/
def vis (xs : List Oper) (D : Nat → Bool) (K k : Nat) : Bool := D k && (!(eff xs k) || decide (k < K))
def env2At (rr : Nat → R) (xs : List Oper) (p : Nat) (D : Nat → Bool) (K q : Nat) : V := match wr xs p q with
  | some k => if vis xs D K k then (rr (k + 1)).env.getD q vun else if D k then vun else (rr 0).env.getD q vun
  | none => (rr 0).env.getD q vun
def env2 (rr : Nat → R) (xs : List Oper) (p : Nat) (D : Nat → Bool) (K : Nat) : List V := (List.range (rr 0).env.length).map (env2At rr xs p D K)
theorem env2_getD {D : Nat → Bool} {K q : Nat} (C : ChkW xs p) (hrr : ∀ i x, xs[i]? = some x → step Cf (rr i) x = some (rr (i + 1))) : (env2 rr xs p D K).getD q vun = env2At rr xs p D K q := by
  unfold env2
  by_cases hq : q < (rr 0).env.length
  · simp [List.getD_eq_getElem?_getD, hq]
  · have e0 : (rr 0).env.getD q vun = vun := by simp [List.getD_eq_getElem?_getD, hq]
    have e1 : ((List.range (rr 0).env.length).map (env2At rr xs p D K)).getD q vun = vun := by simp [List.getD_eq_getElem?_getD, hq]
    rw [e1]
    unfold env2At
    split
    · rename_i k hk
      obtain ⟨q1, _⟩ := wr_some hk
      have hl := (run_env C hrr (k + 1) (by omega)).1
      split
      · simp [List.getD_eq_getElem?_getD, hl, hq]
      · split
        · rfl
        · exact e0.symm
    · exact e0.symm

/-- What is made: a variable, or a row. -/
inductive Mk where
  | ptr
  | own (n : Nat)
def Mk.v (id : Nat) : Mk → V
  | .ptr => .one (.ptr (id + 0) 0 0 0)
  | .own n => .one (.own id 0 0 n)
def Mk.u (b : Nat) : Mk → Value
  | .ptr => .pointer (some ⟨b, 0, none⟩)
  | .own n => .slice (some ⟨b, 0, none⟩) n n
def Mk.ok (sz : Nat) (es : List (List C)) : Mk → Prop
  | .ptr => es.length = 1
  | .own n => es.length = n
/-- A variable that has been made ahead of its turn: a block of which nothing is said yet. -/
structure Raw (P : Program) (gops : Array Go.Oper) (xs : List Oper) (rr : Nat → R) (w0 : World) (g : G) (w : World) (a : Act) (i b : Nat) : Prop where
  it : ∃ (o : Go.Oper) (x : Oper) (sz : Nat) (es : List (List C)) (arr : Array Value) (ty : TypeId) (t : Tmp) (kd : Mk), gops[i]? = some o ∧ xs[i]? = some x ∧ isAl x = true ∧ o.dst = some t ∧ w.heap[b]? = some (.cells arr ty) ∧ a.tmps.getD t undef = kd.u b ∧
    arr.size = es.length * sz ∧ (∀ g w σ, rowRel g w σ arr sz es) ∧ kd.ok sz es ∧ rr (i + 1) = ((rr i).at ((rr i).st ++ [.cells 0 sz es])).put x.dst (kd.v (rr i).st.length)
  ow : g.ow b = .no
  no : ∀ o, ¬ g.N b o
  new : w0.heap.size ≤ b

structure Mid2 (P : Program) (gops : Array Go.Oper) (xs : List Oper) (κ : List Tmp) (nt p : Nat) (rr : Nat → R) (g0 : G) (w0 : World) (σ0 : Store) (D : Nat → Bool) (K : Nat) (B : Nat → Nat) (g : G) (w : World) (a : Act) : Prop where
  ext : Ext g0 w0 σ0 g w (rr K).st
  rel : Rel g w (rr K).st
  size : a.tmps.size = nt
  df : a.defers = []
  slot : ∀ (i : Nat) (t : Tmp), κ[i]? = some t → vrel g w (rr K).st (env2At rr xs p D K i) (a.tmps.getD t undef)
  done : ∀ i t, i < p → vis xs D K i = true → lo gops xs i = some t → vrel g w (rr K).st (valAt rr i) (a.tmps.getD t undef)
  kp : K ≤ p
  before : ∀ i, i < K → eff xs i = true → D i = true
  raw : ∀ i, i < p → D i = true → vis xs D K i = false → Raw P gops xs rr w0 g w a i (B i)
  inj : ∀ i j, i < p → j < p → D i = true → vis xs D K i = false → D j = true → vis xs D K j = false → B i = B j → i = j

theorem lt_or_of_not_vis {D : Nat → Bool} {K i : Nat} (hD : D i = true) (h : vis xs D K i = false) : eff xs i = true ∧ K ≤ i := by
  unfold vis at h
  simp only [hD, Bool.true_and, Bool.or_eq_false_iff, Bool.not_eq_false', decide_eq_false_iff_not, Nat.not_lt] at h
  exact h
theorem vis_succ {D : Nat → Bool} {K i : Nat} (h : i ≠ K) : vis xs D (K + 1) i = vis xs D K i := by
  unfold vis
  have : decide (i < K + 1) = decide (i < K) := by
    simp only [decide_eq_decide]
    omega
  rw [this]
theorem vis_succ_quiet {D : Nat → Bool} {K i : Nat} (h : eff xs K = false) : vis xs D (K + 1) i = vis xs D K i := by
  by_cases e : i = K
  · subst e
    unfold vis
    simp [h]
  · exact vis_succ e

/-- A block of which nothing is said becomes an object. -/
theorem adopt {g g0 : G} {w w0 : World} {σ σ0 : Store} (R : Rel g w σ) (H0 : Ext g0 w0 σ0 g w σ) {b : Nat} {ty : TypeId} {arr : Array Value} {sz : Nat} {es : List (List C)} {kd : Mk} (hsz : arr.size = es.length * sz) (hrow : ∀ g w σ, rowRel g w σ arr sz es) (hkd : kd.ok sz es) (hb : w.heap[b]? = some (.cells arr ty))
    (ho : g.ow b = .no) (hN : ∀ o, ¬ g.N b o) (hb0 : w0.heap.size ≤ b) :
    Ext g0 w0 σ0 (g.own σ.length b) w (σ ++ [.cells 0 sz es]) ∧ Rel (g.own σ.length b) w (σ ++ [.cells 0 sz es]) ∧
    (∀ v u, vrel g w σ v u → vrel (g.own σ.length b) w (σ ++ [.cells 0 sz es]) v u) ∧
    vrel (g.own σ.length b) w (σ ++ [.cells 0 sz es]) (kd.v σ.length) (kd.u b) := by
  let g1 : G := { g with ow := put1 g.ow b (.ob σ.length) }
  have R1 : Rel g1 w σ := rel_ow R rfl rfl rfl (fun b' id _ h => by
      by_cases e : b' = b
      · subst e; rw [ho] at h; cases h
      · exact (put1_ne g.ow _ e).trans h) (fun b' t k _ h => by
      by_cases e : b' = b
      · subst e; rw [ho] at h; cases h
      · exact (put1_ne g.ow _ e).trans h)
  have H1 : Ext g0 w0 σ0 g1 w σ := { H0 with ow := fun b' hb' => (put1_ne g.ow _ (by omega)).trans (H0.ow b' hb') }
  have hlt : b < w.heap.size := (Array.getElem?_eq_some_iff.1 hb).1
  have H2 : Ext g1 w σ (g.own σ.length b) w (σ ++ [.cells 0 sz es]) := {
    os := rfl
    tape := rfl
    output := rfl
    size := Nat.le_refl _
    keeps := fun _ _ h => ⟨h, rfl⟩
    len := by simp
    shape := fun id ver sz len h => by
      obtain ⟨es, h1, h2⟩ := shapeOf_some h
      have hl := lt_of_some h1
      exact .inl ⟨by unfold shapeOf; rw [List.getElem?_append_left hl]; exact h, put1_ne g.ρ _ (by omega), fun _ arr t ha => ⟨arr, ha, rfl⟩⟩
    map := fun id es h => ⟨put1_ne g.ρ _ (by have := lt_of_some h; omega), es, by rw [List.getElem?_append_left (lt_of_some h)]; exact h⟩
    tok := fun t k n h => by
      obtain ⟨sz, fr, h1, h2⟩ := frOf_some h
      exact ⟨n, frOf_of (by rw [List.getElem?_append_left (lt_of_some h1)]; exact h1) h2, Nat.le_refl _, fun _ => rfl⟩
    tsz := fun t sz h => by
      obtain ⟨fr, h1⟩ := tokSz_some h
      exact tokSz_of (fr := fr) (by rw [List.getElem?_append_left (lt_of_some h1)]; exact h1)
    ow := fun _ _ => rfl
    new := fun _ _ h _ _ => h
    frame := fun _ _ _ => rfl }
  refine ⟨H1.trans H2, ⟨R.nb, fun id ob h => ?_⟩, fun v u h => H2.vrel _ _ (vrel_same (g := g) (g' := g1) rfl rfl rfl v u h), ?_⟩
  · by_cases hl : id < σ.length
    · rw [List.getElem?_append_left hl] at h
      exact orel_keep H2 (put1_ne g.ρ _ (by omega)) (fun _ => rfl) (fun b' _ _ => ⟨rfl, rfl, fun _ h => h⟩) (R1.ob id ob h)
    · have hid : id = σ.length := by
        have := lt_of_some h
        simp at this
        omega
      subst hid
      simp at h
      subst h
      exact fun _ => ⟨by simp [G.own], fun o => by simp [G.own]; exact hN o, arr, ty, by simpa [G.own] using hb, by omega, hrow _ _ _⟩
  · cases kd with
    | ptr =>
      simp only [Mk.v, Mk.u, vrel, crel, Nat.add_zero]
      exact ⟨0, sz, es.length, shapeOf_of (get_last σ _), Nat.le_refl _, fun _ => by simp [G.own], _, rfl⟩
    | own n =>
      simp only [Mk.ok] at hkd
      subst hkd
      simp only [Mk.v, Mk.u, vrel, crel]
      refine ⟨0, sz, es.length, shapeOf_of (get_last σ _), Nat.le_refl _, fun _ => ⟨_, _, rfl, Nat.le_refl _, fun h => h, fun _ => ⟨by omega, fun _ => by simp [G.own], arr, ty, ?_, by rw [Nat.zero_add]; omega⟩⟩, _, _, rfl⟩
      simpa [G.own] using hb
end
end Go.A

/- Regions with a draw, in which variables may be made ahead of their turn: the effects' turn. -/
namespace Go.A
section
variable {P : Program} {κ : List Tmp} {nt : Nat} {gops : Array Go.Oper} {ps : List (Nat × Nat)} {xs : List Oper} {ms : List Nat} {p b l : Nat} {Cf : Caller} {rr : Nat → R} {g0 : G} {w0 : World} {σ0 : Store}

theorem writes_dst {x : Oper} {q : Nat} (h : writes x = some q) : x.dst = .slot q := by
  obtain ⟨d, op, gd⟩ := x
  cases d <;> simp [writes] at h
  subst h
  rfl
theorem dst_writes {x : Oper} {q : Nat} (h : x.dst = .slot q) : writes x = some q := by
  obtain ⟨d, op, gd⟩ := x
  simp only at h
  subst h
  rfl
theorem nodup_inj {α : Type} {l : List α} (hn : l.Nodup) {i j : Nat} {x : α} (h1 : l[i]? = some x) (h2 : l[j]? = some x) : i = j := by
  induction l generalizing i j with
  | nil => simp at h1
  | cons y l ih =>
    rw [List.nodup_cons] at hn
    cases i with
    | zero =>
      cases j with
      | zero => rfl
      | succ j =>
        simp at h1 h2
        subst h1
        exact absurd (List.mem_of_getElem? h2) hn.1
    | succ i =>
      cases j with
      | zero =>
        simp at h1 h2
        subst h2
        exact absurd (List.mem_of_getElem? h1) hn.1
      | succ j =>
        simp at h1 h2
        rw [ih hn.2 h1 h2]
theorem isAl_some {x : Oper} (h : isAl x = true) : x.guard = none ∧ (x.dst = .loc ∨ ∃ q, x.dst = .slot q) ∧ ((∃ zero, x.op = .al zero []) ∨ ∃ zero n, x.op = .mks zero none n) := by
  unfold isAl at h
  split at h
  all_goals first | exact ⟨rfl, .inl rfl, .inl ⟨_, rfl⟩⟩ | exact ⟨rfl, .inr ⟨_, rfl⟩, .inl ⟨_, rfl⟩⟩ | exact ⟨rfl, .inl rfl, .inr ⟨_, _, rfl⟩⟩ | cases h
theorem al_step {r r1 : R} {x : Oper} {zero : List C} (h : isAl x = true) (hop : x.op = .al zero []) (hs : step Cf r x = some r1) :
    r1 = (r.at (r.st ++ [.cells 0 zero.length [zero]])).put x.dst (.one (.ptr (r.st.length + 0) 0 0 0)) := by
  obtain ⟨h1, _, _⟩ := isAl_some h
  obtain ⟨d, op, gd⟩ := x
  simp only at h1 hop
  subst h1 hop
  simp only [step, stepOp, Option.some.injEq] at hs
  rw [← hs]
  simp [aal, tokens, ticket, R.allocs, R.at]
theorem mk_step {r r1 : R} {x : Oper} {zero : List C} {n : X} (h : isAl x = true) (hop : x.op = .mks zero none n) (hs : step Cf r x = some r1) :
    ∃ kk m, r.get n = .one (.f (.lit (.int kk m))) ∧ 0 ≤ m ∧ m ≤ LIM ∧ r1 = (r.at (r.st ++ [.cells 0 zero.length (List.replicate m.toNat zero)])).put x.dst (.one (.own r.st.length 0 0 m.toNat)) := by
  obtain ⟨h1, _, _⟩ := isAl_some h
  obtain ⟨d, op, gd⟩ := x
  simp only at h1 hop
  subst h1 hop
  simp only [step, stepOp] at hs
  unfold amks at hs
  split at hs
  · rename_i hv
    split at hs
    · rename_i hm
      injection hs with hs
      exact ⟨_, _, hv, hm.1, hm.2, hs.symm⟩
    · cases hs
  · contradiction
  · cases hs

theorem eff_false_st (hrr : ∀ i x, xs[i]? = some x → step Cf (rr i) x = some (rr (i + 1))) {K : Nat} (hK : K < xs.length) (he : eff xs K = false) : (rr (K + 1)).st = (rr K).st :=
  run_same hrr (a := K) 1 (by omega) fun k h1 h2 h => by
    have : k = K := by omega
    subst this
    unfold eff at he
    simp [h] at he

/-- The effects' turn goes on. -/
theorem mid2_adv (C : Chk2 P κ nt gops ps xs ms p) (hrr : ∀ i x, xs[i]? = some x → step Cf (rr i) x = some (rr (i + 1))) (henv : (rr 0).env.length = κ.length) {D : Nat → Bool} {K : Nat} {B : Nat → Nat} {g : G} {w : World} {a : Act}
    (M : Mid2 P gops xs κ nt p rr g0 w0 σ0 D K B g w a) (hK : K < p) (h : eff xs K = false ∨ D K = true) : ∃ g', Mid2 P gops xs κ nt p rr g0 w0 σ0 D (K + 1) B g' w a := by
  have hKl : K < xs.length := Nat.lt_of_lt_of_le hK C.w.le
  cases he : eff xs K with
  | false =>
    have hst := eff_false_st hrr hKl he
    have henv : ∀ q, env2At rr xs p D (K + 1) q = env2At rr xs p D K q := fun q => by
      unfold env2At
      split
      · rw [vis_succ_quiet he]
      · rfl
    refine ⟨g, ⟨by rw [hst]; exact M.ext, by rw [hst]; exact M.rel, M.size, M.df, fun i t ht => by rw [hst, henv]; exact M.slot i t ht, fun i t hi hv ht => by rw [hst]; exact M.done i t hi (by rw [← vis_succ_quiet he]; exact hv) ht, hK, fun i hi hei => ?_,
      fun i hi hD hv => M.raw i hi hD (by rw [← vis_succ_quiet he]; exact hv), fun i j hi hj hDi hvi hDj hvj => M.inj i j hi hj hDi (by rw [← vis_succ_quiet he]; exact hvi) hDj (by rw [← vis_succ_quiet he]; exact hvj)⟩⟩
    by_cases e : i = K
    · subst e; rw [he] at hei; cases hei
    · exact M.before i (by omega) hei
  | true =>
    have hD : D K = true := by
      rcases h with h | h
      · rw [he] at h; cases h
      · exact h
    have hvK : vis xs D K K = false := by simp [vis, he]
    obtain ⟨⟨o, x, sz, es, arr, ty, t, kd, ho, hx, hal, hdst, hb, hptr, hz, hrow, hkd, hstep⟩, how, hno, hnew⟩ := M.raw K hK hD hvK
    obtain ⟨hg, hd, _⟩ := isAl_some hal
    obtain ⟨H1, R1, hv, hp⟩ := adopt M.rel M.ext hz hrow hkd hb how hno hnew
    have hst : (rr (K + 1)).st = (rr K).st ++ [.cells 0 sz es] := by rw [hstep, put_st]; rfl
    rw [← hst] at H1 R1 hv hp
    have hlt : K < gops.size := by rw [← C.len]; exact hKl
    have hod := (C.pre_some hK ho hx).1
    rw [hdst] at hod
    have hvis1 : vis xs D (K + 1) K = true := by simp [vis, hD]
    refine ⟨_, ⟨H1, R1, M.size, M.df, fun q t' ht' => ?_, fun i t' hi hvi ht' => ?_, hK, fun i hi hei => ?_, fun i hi hDi hvi => ?_, fun i j hi hj hDi hvi hDj hvj hB => ?_⟩⟩
    · -- the slots
      by_cases hw : wr xs p q = some K
      · have hw' := wr_some hw
        obtain ⟨_, x', hx', hwx⟩ := hw'
        rw [hx] at hx'
        injection hx' with hx'
        subst hx'
        unfold env2At
        rw [hw]
        simp only [hvis1, if_true]
        have hds : x.dst = .slot q := by
          exact writes_dst hwx
        rw [hds] at hod
        simp only [okD, beq_iff_eq] at hod
        rw [ht'] at hod
        injection hod with hod
        subst hod
        rw [hptr]
        have hlen : q < (rr K).env.length := by
          rw [(run_env C.w hrr K (Nat.le_of_lt hK)).1, henv]
          exact lt_of_some ht'
        have : (rr (K + 1)).env.getD q vun = kd.v (rr K).st.length := by
          rw [hstep, hds]
          simp [R.put, R.at, List.getD_eq_getElem?_getD, hlen]
        rw [this]
        exact hp
      · have : env2At rr xs p D (K + 1) q = env2At rr xs p D K q := by
          unfold env2At
          split
          · rename_i k hk
            rw [vis_succ (fun e => by subst e; exact hw hk)]
          · rfl
        rw [this]
        exact hv _ _ (M.slot q t' ht')
    · by_cases e : i = K
      · subst e
        have hl : lo gops xs i = locOf o.dst x.dst := by unfold lo; rw [ho, hx]
        rw [hl, hdst] at ht'
        rcases hd with hd | ⟨q, hd⟩
        · rw [hd] at ht'
          simp only [locOf, Option.some.injEq] at ht'
          subst ht'
          rw [hptr]
          have : valAt rr i = kd.v (rr i).st.length := by
            unfold valAt
            rw [hstep, hd]
            rfl
          rw [this]
          exact hp
        · rw [hd] at ht'
          simp [locOf] at ht'
      · rw [vis_succ e] at hvi
        exact hv _ _ (M.done i t' hi hvi ht')
    · by_cases e : i = K
      · subst e; exact hD
      · exact M.before i (by omega) hei
    · have e : i ≠ K := fun e => by subst e; rw [hvis1] at hvi; cases hvi
      rw [vis_succ e] at hvi
      have hne : B i ≠ B K := fun hB => e (M.inj i K hi hK hDi hvi hD hvK hB)
      obtain ⟨k1, k2, k3, k4⟩ := M.raw i hi hDi hvi
      exact ⟨k1, (put1_ne g.ow _ hne).trans k2, k3, k4⟩
    · have e1 : i ≠ K := fun e => by subst e; rw [hvis1] at hvi; cases hvi
      have e2 : j ≠ K := fun e => by subst e; rw [hvis1] at hvj; cases hvj
      rw [vis_succ e1] at hvi
      rw [vis_succ e2] at hvj
      exact M.inj i j hi hj hDi hvi hDj hvj hB

/-- As far as they go. -/
def Stuck (xs : List Oper) (p : Nat) (D : Nat → Bool) (K : Nat) : Prop := K = p ∨ (eff xs K = true ∧ D K = false)
theorem mid2_go (C : Chk2 P κ nt gops ps xs ms p) (hrr : ∀ i x, xs[i]? = some x → step Cf (rr i) x = some (rr (i + 1))) (henv : (rr 0).env.length = κ.length) {D : Nat → Bool} {B : Nat → Nat} {w : World} {a : Act} : ∀ (n K : Nat) (g : G), p - K = n →
    Mid2 P gops xs κ nt p rr g0 w0 σ0 D K B g w a → ∃ K' g', Mid2 P gops xs κ nt p rr g0 w0 σ0 D K' B g' w a ∧ Stuck xs p D K'
  | 0, K, g, hn, M => ⟨K, g, M, .inl (by have := M.kp; omega)⟩
  | n + 1, K, g, hn, M => by
    by_cases h : eff xs K = false ∨ D K = true
    · obtain ⟨g', M'⟩ := mid2_adv C hrr henv M (by omega) h
      exact mid2_go C hrr henv n (K + 1) g' (by omega) M'
    · simp only [not_or, Bool.not_eq_false, Bool.not_eq_true] at h
      exact ⟨K, g, M, .inr h⟩

theorem stuck_ne {D : Nat → Bool} {K j : Nat} (hS : Stuck xs p D K) (h : D j = true) (hj : j < p) (he : eff xs j = true) : j ≠ K := fun e => by
  subst e
  rcases hS with hS | ⟨_, hS⟩
  · omega
  · rw [h] at hS; cases hS

/-- Blocks of which nothing is said stay as they are. -/
theorem Raw.ext {g g' : G} {w w' : World} {a a' : Act} {σ σ' : Store} {i b : Nat} (h : Raw P gops xs rr w0 g w a i b) (H : Ext g w σ g' w' σ') (ht : ∀ t, (∃ o, gops[i]? = some o ∧ o.dst = some t) → a'.tmps.getD t undef = a.tmps.getD t undef) : Raw P gops xs rr w0 g' w' a' i b := by
  obtain ⟨⟨o, x, sz, es, arr, ty, t, kd, h1, h2, h3, h6, h7, h8, k⟩, h9, h10, h11⟩ := h
  have hlt : b < w.heap.size := (Array.getElem?_eq_some_iff.1 h7).1
  exact ⟨⟨o, x, sz, es, arr, ty, t, kd, h1, h2, h3, h6, (H.frame b hlt h9).trans h7, (ht t ⟨o, h1, h6⟩).trans h8, k⟩, (H.ow b hlt).trans h9, fun o ho => h10 o (H.new b o ho hlt h9), h11⟩

/-- Who writes a temporary. -/
def tmpAt (gops : Array Go.Oper) (i : Nat) : Option Tmp := (gops[i]?).bind (·.dst)
theorem tmp_apart (C : Chk2 P κ nt gops ps xs ms p) (hnd : κ.Nodup) {i j : Nat} (hi : i < p) (hj : j < p) (hne : i ≠ j) {t : Tmp} (h1 : tmpAt gops i = some t) (h2 : tmpAt gops j = some t) : False := by
  have hil : i < gops.size := Nat.lt_of_lt_of_le hi C.p_le
  have hjl : j < gops.size := Nat.lt_of_lt_of_le hj C.p_le
  have hoi : gops[i]? = some gops[i] := Array.getElem?_eq_getElem hil
  have hoj : gops[j]? = some gops[j] := Array.getElem?_eq_getElem hjl
  have hxi : xs[i]? = some (xs[i]'(by rw [C.len]; exact hil)) := List.getElem?_eq_getElem (by rw [C.len]; exact hil)
  have hxj : xs[j]? = some (xs[j]'(by rw [C.len]; exact hjl)) := List.getElem?_eq_getElem (by rw [C.len]; exact hjl)
  have di := (C.pre_some hi hoi hxi).1
  have dj := (C.pre_some hj hoj hxj).1
  unfold tmpAt at h1 h2
  rw [hoi] at h1
  rw [hoj] at h2
  simp only [Option.bind_some] at h1 h2
  rw [h1] at di
  rw [h2] at dj
  cases hdi : (xs[i]'(by rw [C.len]; exact hil)).dst with
  | no => rw [hdi] at di; simp [okD] at di
  | loc =>
    rw [hdi] at di
    cases hdj : (xs[j]'(by rw [C.len]; exact hjl)).dst with
    | no => rw [hdj] at dj; simp [okD] at dj
    | loc =>
      have e1 : lo gops xs i = some t := by unfold lo; rw [hoi, hxi]; simp [locOf, h1, hdi]
      have e2 : lo gops xs j = some t := by unfold lo; rw [hoj, hxj]; simp [locOf, h2, hdj]
      exact hne (C.plan.apart i j t hi hj e1 e2)
    | slot q =>
      rw [hdj] at dj
      simp only [okD, beq_iff_eq] at dj
      simp only [okD, Bool.and_eq_true, Bool.not_eq_true'] at di
      have : t ∈ κ := List.mem_of_getElem? dj
      simp [this] at di
  | slot q =>
    rw [hdi] at di
    simp only [okD, beq_iff_eq] at di
    cases hdj : (xs[j]'(by rw [C.len]; exact hjl)).dst with
    | no => rw [hdj] at dj; simp [okD] at dj
    | loc =>
      rw [hdj] at dj
      simp only [okD, Bool.and_eq_true, Bool.not_eq_true'] at dj
      have : t ∈ κ := List.mem_of_getElem? di
      simp [this] at dj
    | slot q' =>
      rw [hdj] at dj
      simp only [okD, beq_iff_eq] at dj
      have hqq : q = q' := nodup_inj hnd di dj
      subst hqq
      rcases Nat.lt_or_gt_of_ne hne with h | h
      · exact (C.pair h hj hxi hxj).2.1 q (dst_writes hdi) (dst_writes hdj)
      · exact (C.pair h hi hxj hxi).2.1 q (dst_writes hdj) (dst_writes hdi)
theorem put_other {a : Act} {d : Option Tmp} {u : Value} {t : Tmp} (h : d ≠ some t) : (a.put d u).tmps.getD t undef = a.tmps.getD t undef := by
  cases d with
  | none => rfl
  | some t' =>
    simp only [Act.put, getD_put]
    rw [if_neg (fun e => h (by rw [e.1]))]
end
end Go.A

/- Regions with a draw, in which variables may be made ahead of their turn: one operation. -/
namespace Go.A
section
variable {P : Program} {κ : List Tmp} {nt : Nat} {gops : Array Go.Oper} {ps : List (Nat × Nat)} {xs : List Oper} {ms : List Nat} {p b l : Nat} {Cf : Caller} {rr : Nat → R} {g0 : G} {w0 : World} {σ0 : Store}

/-- What an operation looks at has been done, and has had its turn. -/
theorem vis_of (C : Chk2 P κ nt gops ps xs ms p) {D : Nat → Bool} {K j i : Nat} (hcl : Closed gops D) (hE : ∀ i ∈ edgesAt gops j, D i = true) (hS : Stuck xs p D K) (hij : i < j) (hj : j < p) {x y : Oper} (hx : xs[i]? = some x) (hy : xs[j]? = some y) (hD : D i = true)
    (hu : isAl x = true → usesAl xs gops j i y = true) : vis xs D K i = true := by
  cases he : eff xs i with
  | false => simp [vis, hD, he]
  | true =>
    have hne := stuck_ne hS hD (by omega) he
    have hlt : i < K := by
      rcases Nat.lt_trichotomy i K with h | h | h
      · exact h
      · exact absurd h hne
      · rcases hS with hS | ⟨hS1, hS2⟩
        · omega
        · have hKl : K < xs.length := by have := C.w.le; omega
          have hxK : xs[K]? = some xs[K] := List.getElem?_eq_getElem hKl
          rcases (C.pair h (by omega) hxK hx).2.2.1 hS1 he with hal | hr
          · have := (C.pair hij hj hx hy).2.2.2 hal (hu hal) K h hS1
            have := reach_done hcl this hE
            rw [hS2] at this; cases this
          · have := reach_done hcl hr (hcl i hD)
            rw [hS2] at this; cases this
    simp [vis, hD, hlt]

/-- The frame of an operation whose turn it is. -/
theorem mid2_frame (C : Chk2 P κ nt gops ps xs ms p) (hrr : ∀ i x, xs[i]? = some x → step Cf (rr i) x = some (rr (i + 1))) (henv : (rr 0).env.length = κ.length) (hnd : κ.Nodup) (hbd : ∀ t ∈ κ, t < nt) {D : Nat → Bool} {K j : Nat} {B : Nat → Nat} {g : G} {w : World} {a : Act}
    (hj : j ≤ p) (f : Nat → Option Tmp) (hf : ∀ i t, i < j → f i = some t → vis xs D K i = true ∧ lo gops xs i = some t) (M : Mid2 P gops xs κ nt p rr g0 w0 σ0 D K B g w a) :
    Fr κ ((List.range j).reverse.map f) nt g w ⟨(List.range j).reverse.map (valAt rr), env2 rr xs p D K, (rr K).st, b, l⟩ a := by
  refine ⟨M.size, by simp [env2, henv], fun i t ht => by simp only [env2_getD C.w hrr]; exact M.slot i t ht, fun d t hd _ => ?_, fun d t hd => ?_, hnd, hbd, M.df⟩
  · have hdj : d < j := by have := lt_of_some hd; simpa using this
    rw [rev_get f hdj] at hd
    injection hd with hd
    obtain ⟨h1, h2⟩ := hf _ t (by omega) hd
    simp only [List.getD_eq_getElem?_getD, rev_get (valAt rr) hdj, Option.getD_some]
    exact M.done _ t (by omega) h1 h2
  · have hdj : d < j := by have := lt_of_some hd; simpa using this
    rw [rev_get f hdj] at hd
    injection hd with hd
    obtain ⟨_, h2⟩ := hf _ t (by omega) hd
    exact lo_not_slot C.plan (by omega : j - 1 - d < p) h2

theorem vis_upd {D : Nat → Bool} {K K1 j i : Nat} (h : (K1 = K ∧ eff xs j = false) ∨ (K1 = K + 1 ∧ j = K)) : vis xs (upd' D j) K1 i = if i = j then true else vis xs D K i := by
  by_cases e : i = j
  · subst e
    rw [if_pos rfl]
    rcases h with ⟨_, h⟩ | ⟨rfl, rfl⟩
    · simp [vis, upd', h]
    · simp [vis, upd']
  · rw [if_neg e]
    have : upd' D j i = D i := by simp [upd', e]
    unfold vis
    rw [this]
    rcases h with ⟨rfl, _⟩ | ⟨rfl, rfl⟩
    · rfl
    · have : decide (i < j + 1) = decide (i < j) := by
        simp only [decide_eq_decide]
        omega
      rw [this]

/-- Behind an operation that had its turn. -/
theorem mid2_next (C : Chk2 P κ nt gops ps xs ms p) (hrr : ∀ i x, xs[i]? = some x → step Cf (rr i) x = some (rr (i + 1))) (henv : (rr 0).env.length = κ.length) (hnd : κ.Nodup) {D : Nat → Bool} {K K1 j : Nat} {B : Nat → Nat} {g g' : G} {w w' : World} {a : Act} {u : Value} {o : Go.Oper} {x : Oper} {v : V} {σ1 : Store}
    (M : Mid2 P gops xs κ nt p rr g0 w0 σ0 D K B g w a) (hK : (K1 = K ∧ eff xs j = false) ∨ (K1 = K + 1 ∧ j = K)) (hj : j < p) (hDj : D j = false) (ho : gops[j]? = some o) (hx : xs[j]? = some x) (hv : rr (j + 1) = ((rr j).at σ1).put x.dst v)
    (H : Ext g w (rr K).st g' w' (rr K1).st) (R1 : Rel g' w' (rr K1).st)
    (F : Fr κ (locOf o.dst x.dst :: locAft gops xs j) nt g' w' ((⟨(List.range j).reverse.map (valAt rr), env2 rr xs p D K, (rr K1).st, b, l⟩ : R).put x.dst v) (a.put o.dst u)) :
    Mid2 P gops xs κ nt p rr g0 w0 σ0 (upd' D j) K1 B g' w' (a.put o.dst u) := by
  have hval : x.dst = .loc → valAt rr j = v := fun h => by unfold valAt; rw [hv, h]; rfl
  have hod := (C.pre_some hj ho hx).1
  have hkp : K1 ≤ p := by
    rcases hK with ⟨rfl, _⟩ | ⟨rfl, rfl⟩
    · exact M.kp
    · omega
  have hfst : ((⟨(List.range j).reverse.map (valAt rr), env2 rr xs p D K, (rr K1).st, b, l⟩ : R).put x.dst v).st = (rr K1).st := put_st _ _ _
  have hold : ∀ i, i ≠ j → i < p → vis xs (upd' D j) K1 i = vis xs D K i := fun i hi _ => by rw [vis_upd hK, if_neg hi]
  have htmp : ∀ i, i ≠ j → i < p → ∀ t, tmpAt gops i = some t → (a.put o.dst u).tmps.getD t undef = a.tmps.getD t undef := fun i hi hip t ht => put_other fun e =>
    tmp_apart C hnd hip hj hi ht (by unfold tmpAt; rw [ho]; exact e)
  refine ⟨M.ext.trans H, R1, F.size, F.df, fun q t ht => ?_, fun i t hi hvi ht => ?_, hkp, fun i hi hei => ?_, fun i hi hDi hvi => ?_, fun i i' hi hi' hDi hvi hDi' hvi' hB => ?_⟩
  · have hf := F.env q t ht
    rw [hfst] at hf
    have e : ((⟨(List.range j).reverse.map (valAt rr), env2 rr xs p D K, (rr K1).st, b, l⟩ : R).put x.dst v).env.getD q vun = env2At rr xs p (upd' D j) K1 q := by
      by_cases hw : writes x = some q
      · have hd := writes_dst hw
        rw [hd]
        have hq : q < (rr 0).env.length := by rw [henv]; exact lt_of_some ht
        have hql : q < (rr j).env.length := by rw [(run_env C.w hrr j (Nat.le_of_lt hj)).1]; exact hq
        have hwr := wr_of C.w hj hx hw
        unfold env2At
        rw [hwr]
        simp only [vis_upd hK, if_true]
        rw [hv, hd]
        simp [R.put, R.at, List.getD_eq_getElem?_getD, env2, hq, hql]
      · have e1 : ((⟨(List.range j).reverse.map (valAt rr), env2 rr xs p D K, (rr K1).st, b, l⟩ : R).put x.dst v).env.getD q vun = (env2 rr xs p D K).getD q vun := by
          cases hd : x.dst with
          | no => rfl
          | loc => rfl
          | slot q' =>
            have hne : q' ≠ q := fun e => hw (by rw [← e]; exact dst_writes hd)
            simp only [R.put, List.getD_eq_getElem?_getD, List.getElem?_set_ne hne]
        rw [e1, env2_getD C.w hrr]
        unfold env2At
        split
        · rename_i k hk
          obtain ⟨k1, x', k2, k3⟩ := wr_some hk
          have hne : k ≠ j := fun e => by subst e; rw [hx] at k2; injection k2 with k2; subst k2; exact hw k3
          have : upd' D j k = D k := by simp [upd', hne]
          rw [hold k hne k1, this]
        · rfl
    rw [e] at hf
    exact hf
  · by_cases e : i = j
    · subst e
      have hlo : locOf o.dst x.dst = some t := by
        unfold lo at ht
        rw [ho, hx] at ht
        exact ht
      have hd : x.dst = .loc := by
        unfold locOf at hlo
        split at hlo
        · rename_i h; exact h
        · cases hlo
      have h0 := F.lc 0 t (by simp [hlo]) (by simp)
      rw [hfst] at h0
      rw [hval hd]
      rw [hd] at h0
      simpa [R.put] using h0
    · rw [hold i e hi] at hvi
      have := H.vrel _ _ (M.done i t hi hvi ht)
      have htt : tmpAt gops i = some t := by
        unfold lo at ht
        unfold tmpAt
        split at ht
        · rename_i o' x' h1 h2
          rw [h1]
          unfold locOf at ht
          split at ht
          · rename_i h3 _; injection ht with ht; subst ht; exact h3
          · cases ht
        · cases ht
      rw [htmp i e hi t htt]
      exact this
  · by_cases e : i = j
    · subst e; simp [upd']
    · have : upd' D j i = D i := by simp [upd', e]
      rw [this]
      rcases hK with ⟨rfl, _⟩ | ⟨rfl, rfl⟩
      · exact M.before i hi hei
      · exact M.before i (by omega) hei
  · have e : i ≠ j := fun e => by subst e; rw [vis_upd hK, if_pos rfl] at hvi; cases hvi
    rw [hold i e hi] at hvi
    have hDi' : D i = true := by simpa [upd', e] using hDi
    exact (M.raw i hi hDi' hvi).ext H fun t ⟨o', h1, h2⟩ => htmp i e hi t (by unfold tmpAt; rw [h1]; exact h2)
  · have e : i ≠ j := fun e => by subst e; rw [vis_upd hK, if_pos rfl] at hvi; cases hvi
    have e' : i' ≠ j := fun e => by subst e; rw [vis_upd hK, if_pos rfl] at hvi'; cases hvi'
    rw [hold i e hi] at hvi
    rw [hold i' e' hi'] at hvi'
    exact M.inj i i' hi hi' (by simpa [upd', e] using hDi) hvi (by simpa [upd', e'] using hDi') hvi' hB

/-- A block has been made ahead of its turn. -/
theorem mid2_made (C : Chk2 P κ nt gops ps xs ms p) (hnd : κ.Nodup) (hbd : ∀ t ∈ κ, t < nt) {D : Nat → Bool} {K j : Nat} {B : Nat → Nat} {g : G} {w : World} {a : Act} {o : Go.Oper} {x : Oper}
    (M : Mid2 P gops xs κ nt p rr g0 w0 σ0 D K B g w a) (hj : j < p) (hKj : K < j) (he : eff xs j = true) (hal : isAl x = true) (ho : gops[j]? = some o) (hx : xs[j]? = some x) {t : Tmp} (hdst : o.dst = some t)
    {sz : Nat} {es : List (List Go.A.C)} {arr : Array Value} {ty : TypeId} {kd : Mk} (hsz : arr.size = es.length * sz) (hrow : ∀ g w σ, rowRel g w σ arr sz es) (hkd : kd.ok sz es) (hstep : rr (j + 1) = ((rr j).at ((rr j).st ++ [.cells 0 sz es])).put x.dst (kd.v (rr j).st.length)) :
    ∃ g' B', Mid2 P gops xs κ nt p rr g0 w0 σ0 (upd' D j) K B' g' (w.alloc (.cells arr ty)) (a.put o.dst (kd.u w.heap.size)) := by
  obtain ⟨h1, h2, _⟩ := isAl_some hal
  obtain ⟨hod, _, hc, _⟩ := C.pre_some hj ho hx
  have htlt : t < nt ∧ (t ∈ κ → ∃ q, x.dst = .slot q ∧ κ[q]? = some t) := by
    rw [hdst] at hod
    rcases h2 with h2 | ⟨q, h2⟩
    · rw [h2] at hod
      simp only [okD, Bool.and_eq_true, Bool.not_eq_true', decide_eq_true_eq] at hod
      exact ⟨hod.2, fun h => absurd h (by simpa using hod.1)⟩
    · rw [h2] at hod
      simp only [okD, beq_iff_eq] at hod
      exact ⟨hbd t (List.mem_of_getElem? hod), fun _ => ⟨q, h2, hod⟩⟩
  let ob : Obj := .cells arr ty
  let g' : G := { g with ow := put1 g.ow w.heap.size .no }
  have H : Ext g w (rr K).st g' (w.alloc ob) (rr K).st := by
    have := Ext.alloc M.rel ob g' (fun _ _ => rfl) (fun _ _ _ _ => rfl) (fun b hb => put1_ne g.ow _ (by omega)) (fun _ _ _ => Iff.rfl) []
    simpa using this
  have R1 : Rel g' (w.alloc ob) (rr K).st := ⟨fun b i h => by rw [size_alloc]; have := M.rel.nb b i h; omega, fun id o' h => orel_keep H rfl (fun _ => rfl) (fun b hb _ => ⟨heap_alloc_old w ob hb, put1_ne g.ow _ (by omega), fun _ h => h⟩) (M.rel.ob id o' h)⟩
  refine ⟨g', put1 B j w.heap.size, ?_⟩
  have hvj : vis xs (upd' D j) K j = false := by simp [vis, upd', he]; omega
  have hold : ∀ i, i ≠ j → vis xs (upd' D j) K i = vis xs D K i := fun i hi => by simp [vis, upd', hi]
  have htmp : ∀ i, i ≠ j → i < p → ∀ t', tmpAt gops i = some t' → ∀ u, (a.put o.dst u).tmps.getD t' undef = a.tmps.getD t' undef := fun i hi hip t' ht u => put_other fun e =>
    tmp_apart C hnd hip hj hi ht (by unfold tmpAt; rw [ho]; exact e)
  have hBold : ∀ i, i < p → D i = true → vis xs D K i = false → B i < w.heap.size := fun i hi hDi hvi => by
    obtain ⟨⟨_, _, _, _, _, _, _, _, _, _, _, _, h7, _⟩, _⟩ := M.raw i hi hDi hvi
    exact (Array.getElem?_eq_some_iff.1 h7).1
  refine ⟨M.ext.trans H, R1, by simp [Act.put, hdst, M.size], by simp [Act.put, hdst, M.df], fun q t' ht' => ?_, fun i t' hi hvi ht' => ?_, M.kp, fun i hi hei => ?_, fun i hi hDi hvi => ?_, fun i i' hi hi' hDi hvi hDi' hvi' hB => ?_⟩
  · by_cases hw : writes x = some q
    · have hwr := wr_of C.w hj hx hw
      unfold env2At
      rw [hwr]
      simp only [hvj, Bool.false_eq_true, if_false]
      have : upd' D j j = true := by simp [upd']
      rw [this]
      simp only [if_true, vun, vrel, crel]
    · have e1 : env2At rr xs p (upd' D j) K q = env2At rr xs p D K q := by
        unfold env2At
        split
        · rename_i k' hk
          obtain ⟨_, x', k2, k3⟩ := wr_some hk
          have hne : k' ≠ j := fun e => by subst e; rw [hx] at k2; injection k2 with k2; subst k2; exact hw k3
          have : upd' D j k' = D k' := by simp [upd', hne]
          rw [hold k' hne, this]
        · rfl
      rw [e1]
      have e2 : o.dst ≠ some t' := fun e => by
        rw [hdst] at e
        injection e with e
        subst e
        obtain ⟨q', hq1, hq2⟩ := htlt.2 (List.mem_of_getElem? ht')
        have := nodup_inj hnd hq2 ht'
        subst this
        exact hw (dst_writes hq1)
      rw [put_other e2]
      exact H.vrel _ _ (M.slot q t' ht')
  · have e : i ≠ j := fun e => by subst e; rw [hvj] at hvi; cases hvi
    rw [hold i e] at hvi
    have htt : tmpAt gops i = some t' := by
      unfold lo at ht'
      unfold tmpAt
      split at ht'
      · rename_i o' x' h1 h2
        rw [h1]
        unfold locOf at ht'
        split at ht'
        · rename_i h3 _; injection ht' with ht'; subst ht'; exact h3
        · cases ht'
      · cases ht'
    rw [htmp i e hi t' htt]
    exact H.vrel _ _ (M.done i t' hi hvi ht')
  · have : i ≠ j := by omega
    have h0 : upd' D j i = D i := by simp [upd', this]
    rw [h0]
    exact M.before i hi hei
  · by_cases e : i = j
    · subst e
      rw [put1_same]
      refine ⟨⟨o, x, sz, es, arr, ty, t, kd, ho, hx, hal, hdst, heap_alloc_at w ob, ?_, hsz, hrow, hkd, hstep⟩, put1_same g.ow _ _, fun o' hN => ?_, M.ext.size⟩
      · rw [hdst]
        simp [Act.put, M.size, htlt.1]
      · have := M.rel.nb _ o' hN
        omega
    · rw [hold i e] at hvi
      have hDi' : D i = true := by simpa [upd', e] using hDi
      rw [put1_ne B _ e]
      exact (M.raw i hi hDi' hvi).ext H fun t' ⟨o', h1, h2⟩ => htmp i e hi t' (by unfold tmpAt; rw [h1]; exact h2) _
  · by_cases e : i = j
    · by_cases e' : i' = j
      · rw [e, e']
      · subst e
        rw [hold i' e'] at hvi'
        have hDq : D i' = true := by simpa [upd', e'] using hDi'
        have := hBold i' hi' hDq hvi'
        rw [put1_same, put1_ne B _ e'] at hB
        omega
    · rw [hold i e] at hvi
      have hDq : D i = true := by simpa [upd', e] using hDi
      have h1 := hBold i hi hDq hvi
      by_cases e' : i' = j
      · subst e'
        rw [put1_same, put1_ne B _ e] at hB
        omega
      · rw [hold i' e'] at hvi'
        rw [put1_ne B _ e, put1_ne B _ e'] at hB
        exact M.inj i i' hi hi' hDq hvi (by simpa [upd', e'] using hDi') hvi' hB

/-- A variable, or a row, that is made ahead of its turn. -/
theorem mid2_raw (C : Chk2 P κ nt gops ps xs ms p) (hrr : ∀ i x, xs[i]? = some x → step Cf (rr i) x = some (rr (i + 1))) (hnd : κ.Nodup) (hbd : ∀ t ∈ κ, t < nt) {D : Nat → Bool} {K j : Nat} {B : Nat → Nat} {g : G} {w : World} {a : Act} {o : Go.Oper} {x : Oper} {next : Act → World → Prop} {Q : Exit → Act → World → Prop} {r' : R}
    (M : Mid2 P gops xs κ nt p rr g0 w0 σ0 D K B g w a) (hj : j < p) (hKj : K < j) (he : eff xs j = true) (hal : isAl x = true) (ho : gops[j]? = some o) (hx : xs[j]? = some x)
    (F : Fr κ (locAft gops xs j) nt g w r' a) (hget : ∀ y ∈ stepX x, r'.get y = (rr j).get y)
    (k : ∀ g' w' u B', Mid2 P gops xs κ nt p rr g0 w0 σ0 (upd' D j) K B' g' w' (a.put o.dst u) → next (a.put o.dst u) w') : o.wp P a w next Q := by
  obtain ⟨h1, h2, hop⟩ := isAl_some hal
  obtain ⟨hod, _, hc, _⟩ := C.pre_some hj ho hx
  obtain ⟨t, hdst⟩ : ∃ t, o.dst = some t := by
    cases hd : o.dst with
    | some t => exact ⟨t, rfl⟩
    | none =>
      rw [hd] at hod
      rcases h2 with h2 | ⟨q, h2⟩ <;> rw [h2] at hod <;> simp [okD] at hod
  rcases hop with ⟨zero, hop⟩ | ⟨zero, n, hop⟩
  · have hs := al_step hal hop (hrr j x hx)
    rw [hop] at hc
    simp only [chkOp] at hc
    split at hc
    · rename_i ty hty
      obtain ⟨zs, hz, hzc, _⟩ := okZero_some hc
      obtain ⟨i, z, k1, k2, k3⟩ := zeroOf_some hz
      have hzz : z.cells = zs.toArray := by rw [← k3]
      obtain ⟨q1, q2⟩ := okCells_sound (g := g) (w := w) (σ := []) hzc
      have hl : zs.length = zero.length := crels_length q1
      obtain ⟨g', B', M'⟩ := mid2_made (sz := zero.length) (es := [zero]) (arr := zs.toArray) (ty := ty) (kd := .ptr) C hnd hbd M hj hKj he hal ho hx hdst (by simp [hl]) (fun g w σ => by
        obtain ⟨hz1, hz2⟩ := okCells_sound (g := g) (w := w) (σ := σ) hzc
        exact rowRel_one hz1 hz2) rfl hs
      refine wp_value (u := .pointer (some ⟨w.heap.size, 0, none⟩)) (w' := w.alloc (.cells zs.toArray ty)) ?_ (k g' _ _ B' M')
      unfold execOp
      simp only [hty]
      simp [Instr.alloc, run_zeroValue (w := w) k1 k2, newVar, newRow, hzz]
    · cases hc
  · obtain ⟨kk, m, hv, hm0, hm1, hs⟩ := mk_step hal hop (hrr j x hx)
    have hxn := hget n (by rw [show stepX x = opX x.op ++ _ from rfl, hop]; simp [opX])
    rw [hop] at hc
    simp only [chkOp] at hc
    split at hc
    · rename_i t' l c hoo
      simp only [Bool.and_eq_true, beq_iff_eq] at hc
      obtain ⟨⟨rfl, q1⟩, q2⟩ := hc
      split at q1
      · rename_i e ht
        split at q1
        · rename_i i hi
          simp only [Bool.and_eq_true, decide_eq_true_eq] at q1
          obtain ⟨⟨h3, h4⟩, h5⟩ := q1
          split at h5
          · rename_i zs hz
            simp only [Bool.and_eq_true, beq_iff_eq] at h5
            obtain ⟨⟨h6, h7⟩, _⟩ := h5
            obtain ⟨i', z, k1, k2, k3⟩ := zeroOf_some hz
            rw [hi] at k1
            injection k1 with k1
            subst k1
            subst k3
            have hzc : z.cells.size = i.size := by simpa using h6
            have hzl : zero.length = i.size := by
              obtain ⟨hz1, _⟩ := okCells_sound (g := g) (w := w) (σ := []) h7
              rw [← crels_length hz1]
              exact h6
            have hvx := F.get q2
            rw [hxn, hv] at hvx
            obtain ⟨ex, _⟩ := vrel_lit hvx
            have hrun : (execOp a.eval o).run P w = .ok (.value (.slice (some ⟨w.heap.size, 0, none⟩) m.toNat m.toNat)) (w.alloc (.cells (madeCells z.cells (m.toNat * i.size)).toList.toArray e)) := by
              unfold execOp
              simp only [hoo, ex, Sem.run_bind, run_make' (P := P) (w := w) ht hi k2 hm0 hm1 h3, Result.andThen_ok, Sem.run_pure]
            have hrow : ∀ g w σ, rowRel g w σ (madeCells z.cells (m.toNat * i.size)).toList.toArray zero.length (List.replicate m.toNat zero) := fun g w σ => by
              obtain ⟨hz1, hz2⟩ := okCells_sound (g := g) (w := w) (σ := σ) h7
              have := made_rows (g := g) (w := w) (σ := σ) (es := List.replicate m.toNat zero) hzc h4 (fun e he => by rw [(List.mem_replicate.1 he).2]; exact hz1) hz2
              rw [List.length_replicate] at this
              rw [Array.toArray_toList, hzl]
              exact this
            obtain ⟨g', B', M'⟩ := mid2_made (sz := zero.length) (es := List.replicate m.toNat zero) (arr := (madeCells z.cells (m.toNat * i.size)).toList.toArray) (ty := e) (kd := .own m.toNat) C hnd hbd M hj hKj he hal ho hx hdst (by simp [size_madeCells, hzl]) hrow (by simp [Mk.ok]) hs
            exact wp_value hrun (k g' _ _ B' M')
          · cases h5
        · cases q1
      · cases q1
    · cases hc
end
end Go.A
