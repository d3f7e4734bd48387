/- Regions with a draw, in which variables may be made ahead of their turn: all of it. -/
import Derived.Test.YtecjccggbbbaaaaGreatSoundF
set_option linter.unusedVariables false
set_option linter.unusedSimpArgs false
namespace Go.A

theorem Value.beq_eq {a b : Value} (h : Value.beq a b = true) : a = b := by
  unfold Value.beq at h
  split at h
  · simp only [Bool.and_eq_true, decide_eq_true_eq] at h
    rw [h.1, h.2]
  · simp only [beq_iff_eq] at h
    rw [h]
  · rename_i a b
    simp only [decide_eq_true_eq] at h
    have : a = b := by
      cases a
      cases b
      simp only [ByteArray.mk.injEq]
      exact Array.toList_inj.1 h
    rw [this]
  · cases h
mutual
theorem Fz.beq_eq : ∀ {a b : Fz}, a.beq b = true → a = b
  | .lit v, .lit u, h => by
    simp only [Fz.beq] at h
    rw [Value.beq_eq h]
  | .sl xs, .sl ys, h => by
    simp only [Fz.beq] at h
    rw [Fz.beqs_eq h]
  | .lit _, .sl _, h => by simp [Fz.beq] at h
  | .sl _, .lit _, h => by simp [Fz.beq] at h
theorem Fz.beqR_eq : ∀ {a b : List Fz}, Fz.beqR a b = true → a = b
  | [], [], _ => rfl
  | x :: xs, y :: ys, h => by
    simp only [Fz.beqR, Bool.and_eq_true] at h
    rw [Fz.beq_eq h.1, Fz.beqR_eq h.2]
  | [], _ :: _, h => by simp [Fz.beqR] at h
  | _ :: _, [], h => by simp [Fz.beqR] at h
theorem Fz.beqs_eq : ∀ {a b : List (List Fz)}, Fz.beqs a b = true → a = b
  | [], [], _ => rfl
  | x :: xs, y :: ys, h => by
    simp only [Fz.beqs, Bool.and_eq_true] at h
    rw [Fz.beqR_eq h.1, Fz.beqs_eq h.2]
  | [], _ :: _, h => by simp [Fz.beqs] at h
  | _ :: _, [], h => by simp [Fz.beqs] at h
end
theorem C.beq_eq {a b : C} (h : a.beq b = true) : a = b := by
  unfold C.beq at h
  split at h
  · rw [Fz.beq_eq h]
  · simp only [Bool.and_eq_true, decide_eq_true_eq] at h
    obtain ⟨⟨h1, h2⟩, h3⟩ := h
    rw [h1, h2, Fz.beqs_eq h3]
  · simp only [Bool.and_eq_true, decide_eq_true_eq] at h
    obtain ⟨⟨⟨h1, h2⟩, h3⟩, h4⟩ := h
    rw [h1, h2, h3, h4]
  · simp only [Bool.and_eq_true, decide_eq_true_eq] at h
    rw [Fz.beqR_eq h.1, h.2]
  · simp only [Bool.and_eq_true, decide_eq_true_eq] at h
    obtain ⟨⟨⟨h1, h2⟩, h3⟩, h4⟩ := h
    rw [h1, h2, h3, h4]
  · simp only [decide_eq_true_eq] at h
    rw [h]
  · cases h
theorem C.beqs_eq : ∀ {a b : List C}, C.beqs a b = true → a = b
  | [], [], _ => rfl
  | x :: xs, y :: ys, h => by
    simp only [C.beqs, Bool.and_eq_true] at h
    rw [C.beq_eq h.1, C.beqs_eq h.2]
  | [], _ :: _, h => by simp [C.beqs] at h
  | _ :: _, [], h => by simp [C.beqs] at h
theorem V.beq_eq {a b : V} (h : a.beq b = true) : a = b := by
  unfold V.beq at h
  split at h
  · rw [C.beq_eq h]
  · rw [C.beqs_eq h]
  · cases h

section
variable {P : Program} {κ : List Tmp} {nt : Nat} {gops : Array Go.Oper} {ps : List (Nat × Nat)} {xs : List Oper} {ms : List Nat} {p b l : Nat} {Cf : Caller} {rr : Nat → R} {g0 : G} {w0 : World} {σ0 : Store}

theorem steps_take (hrr : ∀ i x, xs[i]? = some x → step Cf (rr i) x = some (rr (i + 1))) : ∀ n, n ≤ xs.length → steps Cf (xs.take n) (rr 0) = some (rr n)
  | 0, _ => rfl
  | n + 1, h => by
    have hx : xs[n]? = some xs[n] := List.getElem?_eq_getElem (by omega)
    rw [List.take_add_one, hx]
    simp only [Option.toList_some]
    have ih := steps_take hrr n (by omega)
    have app : ∀ (a b : List Oper) (r : R), steps Cf (a ++ b) r = (steps Cf a r).bind (steps Cf b) := by
      intro a
      induction a with
      | nil => intro b r; rfl
      | cons x a iha =>
        intro b r
        simp only [List.cons_append, steps]
        cases hq : step Cf r x with
        | none => rfl
        | some r1 => simp only [Option.bind_some]; exact iha b r1
    rw [app, ih]
    simp only [Option.bind_some, steps, hrr n _ hx]
theorem noCall_le (c : Caller) : LeC noCall c := fun _ _ _ r h => by cases h

/-- The same, earlier or later. -/
theorem same_at {ops : List Oper} {r : R} {j k : Nat} (hrr : ∀ i x, ops[i]? = some x → step Cf (rr i) x = some (rr (i + 1))) (h0 : rr 0 = r) (hk : k ≤ ops.length) (h : samePair Cf ops r (j, k) = true) {x : Oper} (hx : ops[j]? = some x) (hc : opCls x.op ≤ 2) (hl : isLoc x.dst = true) (hn : noCl x.op = true) :
    ∃ v, rr (j + 1) = (rr j).put x.dst v ∧ ∃ q, step Cf ((rr j).at (rr k).st) x = some q ∧ q = ((rr j).at (rr k).st).put x.dst v := by
  unfold samePair at h
  subst h0
  have hj := lt_of_some hx
  simp only [steps_take hrr j (by omega), steps_take hrr k hk, hx] at h
  have hd : x.dst = .loc := by
    cases hq : x.dst with
    | loc => rfl
    | no => rw [hq] at hl; simp [isLoc] at hl
    | slot q => rw [hq] at hl; simp [isLoc] at hl
  have quiet : ∀ (r q : R), step Cf r x = some q → ∃ v, q = r.put x.dst v := fun r q hq => by
    obtain ⟨n, hn⟩ := exX r.get (stepX x)
    obtain ⟨v, h1, _⟩ := step_quiet (r' := r) (n := n) hc (fun _ _ => rfl) (hn n (Nat.le_refl _)) (fun _ => ⟨fun id ver sz o _ ho hr => ⟨o, ho, hr⟩⟩) (fun _ => ⟨fun id o _ ho => ho⟩) hq
    exact ⟨v, h1⟩
  unfold sameRes at h
  split at h
  · rename_i qa qb ha hb
    have ha' := step_mono (noCall_le Cf) _ _ _ ha
    have hb' := step_mono (noCall_le Cf) _ _ _ hb
    have hb2 := hrr j x hx
    rw [hb2] at hb'
    injection hb' with hb'
    obtain ⟨v, hv⟩ := quiet _ _ ha'
    obtain ⟨v', hv'⟩ := quiet _ _ hb2
    have e := V.beq_eq h
    rw [hv, ← hb', hv', hd] at e
    have e2 : v = v' := by simpa [R.put] using e
    subst e2
    exact ⟨v, hv', qa, ha', hv⟩
  · cases h

theorem quiet_turn (S : Sound P Cf) (C : Chk2 P κ nt gops ps xs ms p) (hrr : ∀ i x, xs[i]? = some x → step Cf (rr i) x = some (rr (i + 1))) (hps : ∀ q ∈ ps, samePair Cf xs (rr 0) q = true) {D : Nat → Bool} {K j : Nat} {B : Nat → Nat} {g : G} {w : World} {a : Act} {x : Oper}
    (hcl : Closed gops D) (hE : ∀ i ∈ edgesAt gops j, D i = true) (hDj : D j = false) (hS : Stuck xs p D K) (M : Mid2 P gops xs κ nt p rr g0 w0 σ0 D K B g w a) (hj : j < p) (hx : xs[j]? = some x) (hc : opCls x.op ≤ 2) {r' : R} (hst : r'.st = (rr K).st)
    (hget : ∀ y ∈ stepX x, r'.get y = (rr j).get y) (hlt : ∀ y ∈ stepX x, ((rr j).get y).lt (rr K).st.length = true) :
    ∃ v, rr (j + 1) = (rr j).put x.dst v ∧ step Cf r' x = some (r'.put x.dst v) := by
  have hjl : j < gops.size := Nat.lt_of_lt_of_le hj C.p_le
  have hA : ∀ i, Reach gops j i → D i = true := fun i h => reach_done hcl h hE
  have hB : ∀ i, Reach gops i j → D i = false := fun i h => by
    cases hi : D i with
    | false => rfl
    | true =>
      have := reach_done hcl h (hcl i hi)
      rw [hDj] at this
      cases this
  have hread := (C.pre_some hj (Array.getElem?_eq_getElem hjl) hx).2.2.2.2.2
  unfold chkRead at hread
  simp only [Bool.or_eq_true, beq_iff_eq, decide_eq_true_eq] at hread
  have hKl : K ≤ xs.length := Nat.le_trans M.kp C.w.le
  rcases hread with (h | h) | h
  · exact step_quiet (r' := r') (n := (rr K).st.length) hc hget hlt (fun e => by omega) (fun e => by omega) (hrr j x hx)
  · omega
  · have := List.all_eq_true.1 h K (by have := M.kp; simp; omega)
    simp only [Bool.or_eq_true, Bool.not_eq_true', Bool.or_eq_false_iff, Bool.and_eq_true] at this
    rcases this with ((h | h) | h) | ⟨⟨h1, h2⟩, h3⟩
    · -- the effects stand at an effect
      rcases hS with hS | ⟨hS, _⟩
      · simp [hS] at h
      · rw [hS] at h; simp at h
    · -- it can't be
      exfalso
      unfold canBe at h
      simp only [Bool.and_eq_false_iff, Bool.not_eq_false', Bool.and_eq_true, decide_eq_true_eq] at h
      rcases h with ⟨h1, h2⟩ | h
      · have := hA K (bit_reach C.masks j hjl h2)
        rcases hS with hS | ⟨_, hS⟩
        · omega
        · rw [hS] at this; cases this
      · rw [List.all_eq_false] at h
        obtain ⟨e, he, h⟩ := h
        simp only [Bool.not_eq_true', Bool.not_eq_false, Bool.and_eq_true, Bool.not_eq_true, Bool.not_eq_false'] at h
        have hek : e < K := by simpa using he
        have hel : e < gops.size := by have := M.kp; have := C.p_le; omega
        have := hB e (bit_reach C.masks e hel h.2)
        rw [M.before e hek h.1] at this
        cases this
    · -- what lies between does no harm
      have hcls : ∀ i, min j K ≤ i → i < max j K → cls xs i ≤ 2 ∨ cls xs i = 4 ∨ (opCls x.op = 1 ∧ cls xs i ≤ 4) := fun i h1 h2 => by
        have := List.all_eq_true.1 h i (by have := M.kp; simp; omega)
        simp only [Bool.or_eq_true, Bool.not_eq_true', Bool.and_eq_true, decide_eq_true_eq, beq_iff_eq, Bool.and_eq_false_iff, decide_eq_false_iff_not] at this
        rcases this with ((h | h) | h) | h
        · unfold eff at h
          simp only [decide_eq_false_iff_not] at h
          exact .inl (by omega)
        · omega
        · exact .inr (.inl h)
        · exact .inr (.inr h)
      rcases Nat.le_total K j with hKj | hKj
      · obtain ⟨n, hn⟩ : ∃ n, j = K + n := ⟨j - K, by omega⟩
        have hjx := lt_of_some hx
        refine step_quiet (r' := r') (n := (rr K).st.length) hc hget hlt (fun hc1 => ?_) (fun hc2 => ?_) (hrr j x hx)
        · rw [hst, hn]
          exact (run_rows hrr n (by omega) fun i h1 h2 => by
            rcases hcls i (by omega) (by omega) with h | h | h
            · omega
            · omega
            · exact h.2).2.2 _ (Nat.le_refl _)
        · obtain ⟨os, hos⟩ := run_grow hrr (a := K) n (by omega) fun i h1 h2 => by
            rcases hcls i (by omega) (by omega) with h | h | h
            · exact .inl h
            · exact .inr h
            · omega
          rw [hst, hn, hos]
          exact ⟨fun id o hid ho => by rw [List.getElem?_append_left hid] at ho; exact ho⟩
      · obtain ⟨n, hn⟩ : ∃ n, K = j + n := ⟨K - j, by omega⟩
        refine step_quiet (r' := r') (n := (rr K).st.length) hc hget hlt (fun hc1 => ?_) (fun hc2 => ?_) (hrr j x hx)
        · rw [hst, hn]
          exact (run_rows hrr n (by omega) fun i h1 h2 => by
            rcases hcls i (by omega) (by omega) with h | h | h
            · omega
            · omega
            · exact h.2).2.1 _
        · obtain ⟨os, hos⟩ := run_grow hrr (a := j) n (by omega) fun i h1 h2 => by
            rcases hcls i (by omega) (by omega) with h | h | h
            · exact .inl h
            · exact .inr h
            · omega
          rw [hst, hn, hos]
          exact ⟨fun id o _ ho => by rw [List.getElem?_append_left (lt_of_some ho)]; exact ho⟩
    · -- the machine has looked
      obtain ⟨v, q1, q, q2, q3⟩ := same_at hrr rfl hKl (hps (j, K) (by simpa using h1)) hx hc h2 h3
      refine ⟨v, q1, ?_⟩
      rw [q3] at q2
      obtain ⟨n, hn⟩ := exX ((rr j).at (rr K).st).get (stepX x)
      have hge : ∀ y, ((rr j).at (rr K).st).get y = (rr j).get y := fun y => by cases y <;> rfl
      obtain ⟨v', e1, e2⟩ := step_quiet (r' := r') (n := n) hc (fun y hy => by rw [hge]; exact hget y hy) (hn n (Nat.le_refl _)) (fun _ => by rw [hst]; exact ⟨fun id ver sz o _ ho hr => ⟨o, ho, hr⟩⟩) (fun _ => by rw [hst]; exact ⟨fun id o _ ho => ho⟩) q2
      have hd : x.dst = .loc := by
        cases hq : x.dst with
        | loc => rfl
        | no => rw [hq] at h2; simp [isLoc] at h2
        | slot q => rw [hq] at h2; simp [isLoc] at h2
      rw [hd] at e1
      have : v = v' := by simpa [R.put] using congrArg (fun r => r.rs.headD vun) e1
      subst this
      exact e2
end
end Go.A

/- Regions with a draw, in which variables may be made ahead of their turn: the run. -/
namespace Go.A
section
variable {P : Program} {κ : List Tmp} {nt : Nat} {gops : Array Go.Oper} {ps : List (Nat × Nat)} {xs : List Oper} {ms : List Nat} {p b l : Nat} {Cf : Caller} {rr : Nat → R} {g0 : G} {w0 : World} {σ0 : Store} {Q : Exit → Act → World → Prop}

/-- One operation, whatever else has been done. -/
theorem mid2_one (S : Sound P Cf) (C : Chk2 P κ nt gops ps xs ms p) (hrr : ∀ i x, xs[i]? = some x → step Cf (rr i) x = some (rr (i + 1))) (h0 : (rr 0).rs = []) (henv : (rr 0).env.length = κ.length) (hnd : κ.Nodup) (hbd : ∀ t ∈ κ, t < nt) (hps : ∀ q ∈ ps, samePair Cf xs (rr 0) q = true)
    {D : Nat → Bool} {K j : Nat} {B : Nat → Nat} {g : G} {w : World} {a : Act} {o : Go.Oper} {next : Act → World → Prop}
    (hcl : Closed gops D) (hE : ∀ i ∈ edgesAt gops j, D i = true) (hDj : D j = false) (hDp : ∀ i, p ≤ i → D i = false) (hS : Stuck xs p D K) (M : Mid2 P gops xs κ nt p rr g0 w0 σ0 D K B g w a) (hj : j < p) (ho : gops[j]? = some o)
    (k : ∀ g' w' u K' B', Mid2 P gops xs κ nt p rr g0 w0 σ0 (upd' D j) K' B' g' w' (a.put o.dst u) → next (a.put o.dst u) w') :
    if Region.wanted o (yielded gops a.tmps) then o.wp P a w next Q else next (a.put o.dst undef) w := by
  have hjl : j < gops.size := Nat.lt_of_lt_of_le hj C.p_le
  have hxl : j < xs.length := by rw [C.len]; exact hjl
  have hx : xs[j]? = some xs[j] := List.getElem?_eq_getElem hxl
  obtain ⟨c1, c2, c3, c4, _⟩ := C.pre_some hj ho hx
  have hA : ∀ i, Reach gops j i → D i = true := fun i h => reach_done hcl h hE
  have hB : ∀ i, Reach gops i j → D i = false := fun i h => by
    cases hi : D i with
    | false => rfl
    | true =>
      have := reach_done hcl h (hcl i hi)
      rw [hDj] at this
      cases this
  have hback : ∀ i ∈ edgesAt gops j, i < j := fun i hi => by
    unfold edgesAt at hi
    rw [ho] at hi
    exact C.plan.back j o ho i hi
  -- the frame
  have F := mid2_frame (b := 0) (l := 0) C hrr henv hnd hbd (Nat.le_of_lt hj) (loAft gops xs j) (fun i t hi ht => by
    unfold loAft at ht
    split at ht
    · rename_i hc
      have hil : i < xs.length := by omega
      refine ⟨vis_of C hcl hE hS hi hj (List.getElem?_eq_getElem hil) hx (hE i (by simpa using hc)) fun _ => by unfold usesAl; rw [hc]; rfl, ht⟩
    · cases ht) M
  have hrs := run_rs hrr h0 j (by omega)
  obtain ⟨_, hen⟩ := run_env C.w hrr j (Nat.le_of_lt hj)
  have hget : ∀ y ∈ stepX xs[j], (⟨(List.range j).reverse.map (valAt rr), env2 rr xs p D K, (rr K).st, 0, 0⟩ : R).get y = (rr j).get y := fun y hy => by
    cases y with
    | l d => show ((List.range j).reverse.map (valAt rr)).getD d vun = (rr j).rs.getD d vun; rw [hrs]
    | c v => rfl
    | s q =>
      show (env2 rr xs p D K).getD q vun = (rr j).env.getD q vun
      rw [env2_getD C.w hrr, hen]
      unfold env2At envAt
      cases hi : wr xs p q with
      | none => rfl
      | some i =>
        simp only
        obtain ⟨hip, x', hx', hw⟩ := wr_some hi
        have hread : readsSlot q xs[j] = true := by
          unfold readsSlot
          rw [List.any_eq_true]
          exact ⟨_, hy, by simp⟩
        rcases Nat.lt_trichotomy i j with hlt | rfl | hlt
        · have hD : D i = true := by
            rcases (C.pair hlt hj hx' hx).1 with h | h
            · exfalso
              unfold envFree at h
              rw [hw] at h
              simp [hread] at h
            · exact hA i h
          have hv := vis_of C hcl hE hS hlt hj hx' hx hD fun _ => by
            unfold usesAl
            rw [hx']
            simp [hw, hread]
          rw [hv]
          simp [hlt]
        · simp [vis, hDj]
        · have hD : D i = false := by
            rcases (C.pair hlt hip hx hx').1 with h | h
            · exfalso
              unfold envFree at h
              rw [hw] at h
              simp [hread] at h
            · exact hB i h
          have : ¬ i < j := by omega
          simp [vis, hD, this]
  have hlt : ∀ y ∈ stepX xs[j], ((rr j).get y).lt (rr K).st.length = true := fun y hy => by
    rw [← hget y hy]
    have hu := c4 y hy
    cases y with
    | l d =>
      simp only [useOk] at hu
      split at hu
      · rename_i t ht
        exact vrel_lt _ _ (F.lc d t ht hu)
      · cases hu
    | s q =>
      by_cases hq : q < κ.length
      · exact vrel_lt _ _ (F.env q _ (List.getElem?_eq_getElem hq))
      · have hl := F.len
        have : (⟨(List.range j).reverse.map (valAt rr), env2 rr xs p D K, (rr K).st, 0, 0⟩ : R).get (.s q) = vun := by
          show (env2 rr xs p D K).getD q vun = vun
          rw [List.getD_eq_getElem?_getD, List.getElem?_eq_none (by simp only at hl; omega)]
          rfl
        rw [this]
        rfl
    | c v => exact V.lt_mono (Nat.zero_le _) v hu
  by_cases hc : opCls xs[j].op ≤ 2
  · have heff : eff xs j = false := by unfold eff; rw [cls_of hx]; simp; omega
    obtain ⟨v, h1, h2⟩ := quiet_turn (r' := ⟨(List.range j).reverse.map (valAt rr), env2 rr xs p D K, (rr K).st, 0, 0⟩) S C hrr hps hcl hE hDj hS M hj hx hc rfl hget hlt
    refine step_sound (r := ⟨(List.range j).reverse.map (valAt rr), env2 rr xs p D K, (rr K).st, 0, 0⟩) S M.rel F c1 c2 c3 h2 (fun g' w' u H R1 _ F1 => ?_) (fun _ h => h)
    rw [put_st] at H R1
    exact k g' w' u K B (mid2_next (b := 0) (l := 0) (σ1 := (rr j).st) C hrr henv hnd M (.inl ⟨rfl, heff⟩) hj hDj ho hx h1 H R1 F1)
  · have heff : eff xs j = true := by unfold eff; rw [cls_of hx]; simp; omega
    by_cases hKj : j = K
    · subst hKj
      obtain ⟨v, σ1, h1, h2, _⟩ := step_eff (r' := ⟨(List.range j).reverse.map (valAt rr), env2 rr xs p D j, (rr j).st, 0, 0⟩) hget rfl (hrr j _ hx)
      have hst : (rr (j + 1)).st = σ1 := by rw [h1, put_st]; rfl
      refine step_sound (r := ⟨(List.range j).reverse.map (valAt rr), env2 rr xs p D j, (rr j).st, 0, 0⟩) S M.rel F c1 c2 c3 h2 (fun g' w' u H R1 _ F1 => ?_) (fun _ h => h)
      rw [put_st] at H R1
      have H' : Ext g w (rr j).st g' w' (rr (j + 1)).st := by rw [hst]; exact H
      have R' : Rel g' w' (rr (j + 1)).st := by rw [hst]; exact R1
      refine k g' w' u (j + 1) B (mid2_next (b := 0) (l := 0) (σ1 := σ1) C hrr henv hnd M (.inr ⟨rfl, rfl⟩) hj hDj ho hx h1 H' R' ?_)
      have e : (⟨(List.range j).reverse.map (valAt rr), env2 rr xs p D j, (rr (j + 1)).st, 0, 0⟩ : R) = (⟨(List.range j).reverse.map (valAt rr), env2 rr xs p D j, (rr j).st, 0, 0⟩ : R).at σ1 := by rw [hst]; rfl
      rw [e]
      exact F1
    · have hKlt : K < j ∧ isAl xs[j] = true := by
        rcases hS with hS | ⟨hS1, hS2⟩
        · have := M.before j (by omega) heff
          rw [hDj] at this; cases this
        · rcases Nat.lt_or_gt_of_ne hKj with h | h
          · have := M.before j h heff
            rw [hDj] at this; cases this
          · have hKl : K < xs.length := by omega
            rcases (C.pair h hj (List.getElem?_eq_getElem hKl) hx).2.2.1 hS1 heff with h' | h'
            · exact ⟨h, h'⟩
            · have := hA K h'
              rw [hS2] at this; cases this
      have hgd := guard_none F c2 (isAl_some hKlt.2).1
      simp only [Region.wanted, hgd, if_true]
      exact mid2_raw C hrr hnd hbd M hj hKlt.1 heff hKlt.2 ho hx F hget fun g' w' u B' M' => k g' w' u K B' M'

theorem mid2_run (S : Sound P Cf) (C : Chk2 P κ nt gops ps xs ms p) (hrr : ∀ i x, xs[i]? = some x → step Cf (rr i) x = some (rr (i + 1))) (h0 : (rr 0).rs = []) (henv : (rr 0).env.length = κ.length) (hnd : κ.Nodup) (hbd : ∀ t ∈ κ, t < nt) (hps : ∀ q ∈ ps, samePair Cf xs (rr 0) q = true)
    (hend : ∀ g w a loc, Ext g0 w0 σ0 g w (rr gops.size).st → Rel g w (rr gops.size).st → Fr κ loc nt g w (rr gops.size) a → Q .normal a w) :
    ∀ (fuel : Nat) (listed : Array Bool) (K : Nat) (B : Nat → Nat) (g : G) (w : World) (a : Act), listed.size = gops.size → (∀ i, p ≤ i → Dof listed i = false) → Closed gops (Dof listed) → left (Dof listed) (List.range gops.size) ≤ fuel → Mid2 P gops xs κ nt p rr g0 w0 σ0 (Dof listed) K B g w a → wpAny P .any gops Q fuel listed a w
  | fuel, listed, K, B, g, w, a, hs, hp, hcl, hf, M0 => by
    obtain ⟨K, g, M, hS⟩ := mid2_go C hrr henv _ K g rfl M0
    by_cases hfull : ∀ i, i < p → Dof listed i = true
    · have hDp : ∀ i, Dof listed i = decide (i < p) := fun i => by
        by_cases hi : i < p
        · simp [hi, hfull i hi]
        · simp [hi, hp i (by omega)]
      have hKp : K = p := by
        rcases hS with hS | ⟨_, hS⟩
        · exact hS
        · rcases Nat.lt_or_ge K p with h | h
          · rw [hfull K h] at hS; cases hS
          · have := M.kp; omega
      subst hKp
      have hvis : ∀ i, i < K → vis xs (Dof listed) K i = true := fun i hi => by simp [vis, hfull i hi, hi]
      have F0 := mid2_frame (b := 0) (l := 0) C hrr henv hnd hbd (Nat.le_refl K) (lo gops xs) (fun i t hi ht => ⟨hvis i hi, ht⟩) M
      have hen : env2 rr xs K (Dof listed) K = (rr K).env := by
        obtain ⟨q1, q2⟩ := run_env C.w hrr K (Nat.le_refl _)
        refine List.ext_getElem? fun q => ?_
        by_cases hq : q < (rr 0).env.length
        · have e1 := env2_getD (D := Dof listed) (K := K) (q := q) C.w hrr
          have e2 := q2 q
          have e3 : env2At rr xs K (Dof listed) K q = envAt rr xs K (fun k => decide (k < K)) q := by
            unfold env2At envAt
            cases hk : wr xs K q with
            | none => rfl
            | some k =>
              obtain ⟨hkK, _⟩ := wr_some hk
              simp only [hvis k hkK]
              simp [hkK]
          rw [e3, ← e2] at e1
          rw [List.getD_eq_getElem?_getD, List.getD_eq_getElem?_getD] at e1
          have l1 : q < (env2 rr xs K (Dof listed) K).length := by simpa [env2] using hq
          have l2 : q < (rr K).env.length := by omega
          rw [List.getElem?_eq_getElem l1, List.getElem?_eq_getElem l2] at e1 ⊢
          simpa using e1
        · rw [List.getElem?_eq_none (by simp [env2]; omega), List.getElem?_eq_none (by omega)]
      have hrs := run_rs hrr h0 K C.w.le
      rw [hen, ← hrs] at F0
      have F : Fr κ (locFull gops xs K) nt g w (rr K) a := ⟨F0.size, F0.len, F0.env, F0.lc, F0.lk, F0.nd, F0.bd, F0.df⟩
      refine tail_run S C.plan hrr hend fuel K listed g w a hs (Nat.le_refl _) C.p_le hDp ?_ M.ext M.rel F
      have hcount : ∀ n, n ≤ gops.size → n ≤ K + left (Dof listed) (List.range n) := fun n => by
        induction n with
        | zero => intro _; omega
        | succ n ih =>
          intro hn
          have := ih (by omega)
          unfold left at this ⊢
          rw [List.range_succ, List.filter_append, List.length_append]
          by_cases hnp : n < K
          · omega
          · have h0 := hp n (by omega)
            simp [h0]
            omega
      have := hcount gops.size (Nat.le_refl _)
      omega
    · have hready : ∀ j, j ∈ Region.ready .any gops listed → j < p ∧ j < gops.size ∧ Dof listed j = false ∧ ∀ i ∈ edgesAt gops j, Dof listed i = true := fun j hj => by
        obtain ⟨⟨o, ho⟩, h0, h1⟩ := (ready_spec hs).1 hj
        have hlt : j < gops.size := (Array.getElem?_eq_some_iff.1 ho).1
        refine ⟨?_, hlt, h0, h1⟩
        rcases Nat.lt_or_ge j p with h | h
        · exact h
        · have hx : xs[j]? = some (xs[j]'(by rw [C.len]; exact hlt)) := List.getElem?_eq_getElem (by rw [C.len]; exact hlt)
          have hclo := (C.plan.tail j o _ h ho hx).2.2.2
          exact absurd (fun i hi => reach_done hcl (hclo i (by omega)) h1) hfull
      obtain ⟨i0, hi0⟩ := Classical.not_forall.1 hfull
      obtain ⟨hi0, hne⟩ := Classical.not_imp.1 hi0
      have hne0 : Region.ready .any gops listed ≠ [] := exists_ready hs C.plan.back i0 (by have := C.p_le; omega) (by simpa using hne)
      cases fuel with
      | zero =>
        have := left_zero (Nat.le_zero.1 hf) i0 (by have := C.p_le; simpa using Nat.lt_of_lt_of_le hi0 this)
        exact absurd this hne
      | succ fuel =>
        refine ⟨fun hr => absurd hr hne0, fun j hj => ?_⟩
        obtain ⟨hjp, hlt, hD0, hD1⟩ := hready j hj
        have ho : gops[j]? = some gops[j] := Array.getElem?_eq_getElem hlt
        have key := mid2_one (Q := Q) (next := wpAny P .any gops Q fuel (listed.setIfInBounds j true)) S C hrr h0 henv hnd hbd hps hcl hD1 hD0 hp hS M hjp ho (fun g' w' u K' B' M' =>
          mid2_run S C hrr h0 henv hnd hbd hps hend fuel _ K' B' g' w' _ (by simpa using hs) (fun i hi => by
              rw [Dof_set hs hlt]
              unfold upd'
              split
              · omega
              · exact hp i hi) (by rw [Dof_set hs hlt]; exact closed_upd hcl hD1) (by
              rw [Dof_set hs hlt]
              have := left_lt (Dof listed) j hD0 (List.range gops.size) (by simpa using hlt)
              omega) (by
              rw [Dof_set hs hlt]
              exact M'))
        unfold wpOp
        simp only [ho]
        split
        · rename_i hw
          rw [if_pos hw] at key
          exact .inl key
        · rename_i hw
          rw [if_neg hw] at key
          exact key
termination_by fuel => fuel

theorem draws_b (hm : P.follows .mixedOrders = true) (Cf : Caller) (S : Sound P Cf) (κ : List Tmp) (nt id : Nat) (gops : Array Go.Oper) (ps : List (Nat × Nat)) (xs : List Oper) (hchk : chkDraw2 P κ nt gops ps xs = true) (r r1 : R) (hr0 : r.rs = []) (hreg : regD Cf ps xs r = some r1) : RegOk P κ nt id gops r r1 := by
  intro g w a Q R0 F hend
  obtain ⟨ms, p, C⟩ := chk2_of hchk
  unfold regD at hreg
  rw [Option.bind_eq_some_iff] at hreg
  obtain ⟨r2, hsteps, hreg⟩ := hreg
  split at hreg
  · rename_i hall
    injection hreg with hreg
    subst hreg
    obtain ⟨rr, k1, k2, hrr⟩ := steps_seq xs r r2 hsteps
    have hps : ∀ q ∈ ps, samePair Cf xs (rr 0) q = true := fun q hq => by rw [k1]; exact List.all_eq_true.1 hall q hq
    refine wp_region_any hm ?_
    obtain ⟨D1, D2⟩ := drawn R0 1
    have hDof : ∀ i, Dof (Array.replicate gops.size false) i = false := fun i => by
      unfold Dof
      rw [Array.getD_eq_getD_getElem?, Array.getElem?_replicate]
      split <;> rfl
    have hvis : ∀ K i, vis xs (Dof (Array.replicate gops.size false)) K i = false := fun K i => by simp [vis, hDof]
    have hend' : ∀ g' w' a' loc, Ext g w r.st g' w' (rr gops.size).st → Rel g' w' (rr gops.size).st → Fr κ loc nt g' w' (rr gops.size) a' → Q .normal a' w' := fun g' w' a' loc H R1 F1 => by
      rw [← C.len, k2] at H R1 F1
      exact hend g' w' a' loc H R1 F1
    refine mid2_run (g0 := g) (w0 := w) (σ0 := r.st) (rr := rr) S C hrr (by rw [k1]; exact hr0) (by rw [k1]; exact F.len) F.nd F.bd hps hend' gops.size (Array.replicate gops.size false) 0 (fun _ => 0) g (w.drewN 1) a (by simp) (fun i _ => hDof i) (fun j hj => by rw [hDof] at hj; cases hj) ?_ ⟨by rw [k1]; exact D1, by rw [k1]; exact D2, F.size, F.df, fun q t ht => ?_, fun i t _ hv => (by rw [hvis] at hv; cases hv), Nat.zero_le _, fun i hi => by omega, fun i _ hD => (by rw [hDof] at hD; cases hD), fun i j _ _ hD => (by rw [hDof] at hD; cases hD)⟩
    · unfold left
      exact Nat.le_trans (List.length_filter_le _ _) (by simp)
    · have e : env2At rr xs p (Dof (Array.replicate gops.size false)) 0 q = r.env.getD q vun := by
        unfold env2At
        split <;> simp [hvis, hDof, k1]
      rw [e, k1]
      exact D1.vrel _ _ (F.env q t ht)
  · cases hreg
end
end Go.A

/- Regions with a draw that fill a new map, in whatever order. -/
namespace Go.A

inductive IK where
  | mk
  | ins (n : Int) (d : Nat) (y : X)
  | quiet
  | ld
  | bad
def ikOp : Op → IK
  | .ld _ _ => .ld
  | op => if opCls op == 0 then .quiet else .bad
def ikOf : Oper → IK
  | ⟨.loc, .mkm, none⟩ => .mk
  | ⟨.no, .mu (.l d) (.c (.one (.f (.lit (.int .i64 n))))) y, none⟩ => .ins n d y
  | ⟨_, op, _⟩ => ikOp op
def ikAt (xs : List Oper) (i : Nat) : IK := match xs[i]? with
  | some x => ikOf x
  | none => .bad
def isMk : IK → Bool
  | .mk => true
  | _ => false
def keyAt (xs : List Oper) (i : Nat) : Option Int := match ikAt xs i with
  | .ins n _ _ => some n
  | _ => none
def chkKind (gops : Array Go.Oper) (m0 j : Nat) : IK → Bool
  | .mk => j == m0
  | .ins _ d _ => decide (d < j) && (j - 1 - d == m0) && (edgesAt gops j).contains m0
  | .quiet => true
  | .ld => true
  | .bad => false
def chkPair3 (ms : List Nat) (xs : List Oper) (i j : Nat) : Bool := match xs[i]?, xs[j]? with
  | some x, some y => (envFree x y || bit ms j i) && (match writes x, writes y with
    | some q, some q' => q != q'
    | _, _ => true)
  | _, _ => false
def chkPre3 (P : Program) (κ : List Tmp) (nt : Nat) (gops : Array Go.Oper) (xs : List Oper) (ms : List Nat) (m0 j : Nat) : Bool := match gops[j]?, xs[j]? with
  | some o, some x => okD κ nt o.dst x.dst && okGuard κ (locAft gops xs j) gops o.guard x.guard && chkOp P κ (locAft gops xs j) o x.dst x.op && (List.range j).all (fun i => chkPair3 ms xs i j) && chkKind gops m0 j (ikOf x)
  | _, _ => false
def noDupI : List Int → Bool
  | [] => true
  | x :: xs => !xs.contains x && noDupI xs
def chkIns (P : Program) : List Tmp → Nat → Array Go.Oper → List Oper → Bool := fun κ nt gops xs =>
  let ms := masksUpto gops.toList []
  let p := tailFrom ms gops.size
  match (List.range p).find? (fun i => isMk (ikAt xs i)) with
  | none => false
  | some m0 => okMasks gops ms && xs.length == gops.size && decide (p ≤ gops.size) && noDup (locs gops xs p) && noDupI ((List.range p).filterMap (keyAt xs)) && isMk (ikAt xs m0) && decide (m0 < p) && (List.range p).all (chkPre3 P κ nt gops xs ms m0) && (List.range gops.size).all fun j => decide (j < p) || chkTail P κ nt gops xs ms j

structure Chk3 (P : Program) (κ : List Tmp) (nt : Nat) (gops : Array Go.Oper) (xs : List Oper) (ms : List Nat) (m0 p : Nat) : Prop where
  masks : okMasks gops ms = true
  len : xs.length = gops.size
  p_le : p ≤ gops.size
  dup : noDup (locs gops xs p) = true
  keys : noDupI ((List.range p).filterMap (keyAt xs)) = true
  ismk : isMk (ikAt xs m0) = true
  m0p : m0 < p
  pre : ∀ j, j < p → chkPre3 P κ nt gops xs ms m0 j = true
  tail : ∀ j, p ≤ j → j < gops.size → chkTail P κ nt gops xs ms j = true

theorem noDupI_nodup : ∀ {l : List Int}, noDupI l = true → l.Nodup
  | [], _ => .nil
  | x :: l, h => by
    simp only [noDupI, Bool.and_eq_true, Bool.not_eq_true'] at h
    exact List.nodup_cons.2 ⟨by simpa using h.1, noDupI_nodup h.2⟩

section
variable {P : Program} {κ : List Tmp} {nt : Nat} {gops : Array Go.Oper} {xs : List Oper} {ms : List Nat} {m0 p : Nat} {Cf : Caller} {rr : Nat → R}

theorem chk3_of (h : chkIns P κ nt gops xs = true) : ∃ ms m0 p, Chk3 P κ nt gops xs ms m0 p := by
  unfold chkIns at h
  simp only at h
  split at h
  · cases h
  · simp only [Bool.and_eq_true, beq_iff_eq, decide_eq_true_eq] at h
    obtain ⟨⟨⟨⟨⟨⟨⟨⟨h1, h2⟩, h3⟩, h4⟩, h5⟩, h6⟩, h7⟩, h8⟩, h9⟩ := h
    refine ⟨_, _, _, h1, h2, h3, h4, h5, h6, h7, fun j hj => List.all_eq_true.1 h8 j (by simpa using hj), fun j hj hlt => ?_⟩
    have := List.all_eq_true.1 h9 j (by simpa using hlt)
    simp only [Bool.or_eq_true, decide_eq_true_eq] at this
    rcases this with h | h
    · omega
    · exact h

theorem Chk3.pre_some (C : Chk3 P κ nt gops xs ms m0 p) {j : Nat} (hj : j < p) {o : Go.Oper} {x : Oper} (ho : gops[j]? = some o) (hx : xs[j]? = some x) :
    okD κ nt o.dst x.dst = true ∧ okGuard κ (locAft gops xs j) gops o.guard x.guard = true ∧ chkOp P κ (locAft gops xs j) o x.dst x.op = true ∧ (∀ i, i < j → chkPair3 ms xs i j = true) ∧ chkKind gops m0 j (ikOf x) = true := by
  have h := C.pre j hj
  unfold chkPre3 at h
  rw [ho, hx] at h
  simp only [Bool.and_eq_true] at h
  obtain ⟨⟨⟨⟨h1, h2⟩, h3⟩, h5⟩, h6⟩ := h
  exact ⟨h1, h2, h3, fun i hi => List.all_eq_true.1 h5 i (by simpa using hi), h6⟩
theorem Chk3.plan (C : Chk3 P κ nt gops xs ms m0 p) : Plan P κ nt gops xs p where
  len := C.len
  p_le := C.p_le
  back := fun j o ho i hi => by
    have hj : j < gops.size := (Array.getElem?_eq_some_iff.1 ho).1
    exact (okMasks_at C.masks hj).2 i (by unfold edgesAt; rw [ho]; exact hi)
  pre := fun j o x hj ho hx => (C.pre_some hj ho hx).1
  apart := fun i j t hi hj h1 h2 => noDup_locs C.dup List.nodup_range i (by simpa using hi) j (by simpa using hj) t h1 h2
  tail := fun j o x hj ho hx => by
    have hlt : j < gops.size := (Array.getElem?_eq_some_iff.1 ho).1
    have h := C.tail j hj hlt
    unfold chkTail at h
    rw [ho, hx] at h
    simp only [Bool.and_eq_true] at h
    obtain ⟨⟨⟨h1, h2⟩, h3⟩, h4⟩ := h
    exact ⟨h1, h2, h3, fun i hi => bit_reach C.masks j hlt (List.all_eq_true.1 h4 i (by simpa using hi))⟩
theorem Chk3.pair (C : Chk3 P κ nt gops xs ms m0 p) {i j : Nat} (hij : i < j) (hj : j < p) {x y : Oper} (hx : xs[i]? = some x) (hy : xs[j]? = some y) :
    (envFree x y = true ∨ Reach gops j i) ∧ ∀ q, writes x = some q → writes y ≠ some q := by
  have hlt : j < gops.size := Nat.lt_of_lt_of_le hj C.p_le
  have h := (C.pre_some hj (Array.getElem?_eq_getElem hlt) hy).2.2.2.1 i hij
  unfold chkPair3 at h
  rw [hx, hy] at h
  simp only [Bool.and_eq_true, Bool.or_eq_true] at h
  obtain ⟨h1, h2⟩ := h
  refine ⟨h1.imp id fun h => bit_reach C.masks j hlt h, fun q hq hq' => ?_⟩
  rw [hq, hq'] at h2
  simp at h2
theorem Chk3.w (C : Chk3 P κ nt gops xs ms m0 p) : ChkW xs p := ⟨by rw [C.len]; exact C.p_le, fun hij hj _ _ hx hy => (C.pair hij hj hx hy).2⟩

/-! ### Entries -/
def entX (rr : Nat → R) (i : Nat) : IK → Option (Int × V)
  | .ins n _ y => some (n, (rr i).get y)
  | _ => none
def ent (rr : Nat → R) (xs : List Oper) (i : Nat) : Option (Int × V) := entX rr i (ikAt xs i)
def entD (rr : Nat → R) (xs : List Oper) (D : Nat → Bool) (i : Nat) : Option (Int × V) := if D i then ent rr xs i else none
def ents (rr : Nat → R) (xs : List Oper) (p : Nat) (D : Nat → Bool) : List (Int × V) := (List.range p).filterMap (entD rr xs D)
def stOf3 (rr : Nat → R) (xs : List Oper) (p m0 : Nat) (D : Nat → Bool) : Store := if D m0 then (rr 0).st ++ [.mp (ents rr xs p D)] else (rr 0).st

theorem filterMap_congr' {α β : Type} {f f' : α → Option β} : ∀ {l : List α}, (∀ i ∈ l, f' i = f i) → l.filterMap f' = l.filterMap f
  | [], _ => rfl
  | y :: l, h => by
    simp only [List.filterMap_cons, h y (by simp), filterMap_congr' fun i hi => h i (List.mem_cons_of_mem _ hi)]
theorem filterMap_one {α β : Type} [DecidableEq α] {f f' : α → Option β} {j : α} {x : β} : ∀ {l : List α}, l.Nodup → j ∈ l → (∀ i, i ≠ j → f' i = f i) → f j = none → f' j = some x → (l.filterMap f').Perm (l.filterMap f ++ [x])
  | [], _, h, _, _, _ => by simp at h
  | y :: l, hn, h, h1, h2, h3 => by
    rw [List.nodup_cons] at hn
    by_cases e : y = j
    · subst e
      have : l.filterMap f' = l.filterMap f := filterMap_congr' fun i hi => h1 i (fun e => hn.1 (e ▸ hi))
      simp only [List.filterMap_cons, h2, h3, this]
      exact (List.perm_append_singleton _ _).symm
    · have ih := filterMap_one hn.2 (by simpa [Ne.symm e] using h) h1 h2 h3
      simp only [List.filterMap_cons, h1 y e]
      cases f y with
      | none => exact ih
      | some z => exact ih.cons z
theorem ent_key (i : Nat) : (ent rr xs i).map (·.1) = keyAt xs i := by
  unfold ent keyAt
  cases ikAt xs i <;> rfl
theorem keys_of {D : Nat → Bool} : ∀ {l : List Nat}, (l.filterMap (entD rr xs D)).map (·.1) = (l.filter D).filterMap (keyAt xs)
  | [] => rfl
  | i :: l => by
    have ih := keys_of (D := D) (l := l)
    have hk := ent_key (rr := rr) (xs := xs) i
    cases hD : D i with
    | false =>
      have : entD rr xs D i = none := by simp [entD, hD]
      simp only [List.filterMap_cons, List.filter_cons, this, hD, ih]
      simp
    | true =>
      have : entD rr xs D i = ent rr xs i := by simp [entD, hD]
      simp only [List.filterMap_cons, List.filter_cons, this, hD, if_true]
      cases he : ent rr xs i with
      | none =>
        rw [he] at hk
        simp only [Option.map_none] at hk
        simp only [← hk, ih]
      | some e =>
        rw [he] at hk
        simp only [Option.map_some] at hk
        simp only [← hk, ih, List.map_cons]
theorem nodup_sub {α β : Type} {f : α → Option β} {D : α → Bool} {l : List α} (h : (l.filterMap f).Nodup) : ((l.filter D).filterMap f).Nodup :=
  h.sublist (List.filter_sublist.filterMap f)
theorem ents_nodup (hk : noDupI ((List.range p).filterMap (keyAt xs)) = true) (D : Nat → Bool) : ((ents rr xs p D).map (·.1)).Nodup := by
  unfold ents
  rw [keys_of]
  exact nodup_sub (noDupI_nodup hk)

theorem ikAt_of {i : Nat} {x : Oper} (hx : xs[i]? = some x) : ikAt xs i = ikOf x := by unfold ikAt; rw [hx]

/-- An entry that is not there yet. -/
theorem ents_new (hk : noDupI ((List.range p).filterMap (keyAt xs)) = true) {D : Nat → Bool} {j : Nat} (hj : j < p) (hD : D j = false) {n : Int} {v : V} (he : ent rr xs j = some (n, v)) :
    mget n (ents rr xs p D) = none ∧ (ents rr xs p D ++ [(n, v)]).Perm (ents rr xs p (upd' D j)) := by
  have hp := filterMap_one (f := entD rr xs D) (f' := entD rr xs (upd' D j)) (x := (n, v)) List.nodup_range (List.mem_range.2 hj) (fun i hi => by simp [entD, upd', hi]) (by simp [entD, hD]) (by simp [entD, upd', he])
  have hn := ents_nodup (rr := rr) hk (upd' D j)
  refine ⟨mget_none.2 fun e hee heq => ?_, hp.symm⟩
  have hn2 : ((ents rr xs p D ++ [(n, v)]).map (·.1)).Nodup := (hp.map (·.1)).nodup_iff.1 hn
  rw [List.map_append, List.nodup_append] at hn2
  exact hn2.2.2 e.1 (List.mem_map.2 ⟨e, hee, rfl⟩) n (by simp) heq
theorem ents_same {D : Nat → Bool} {j : Nat} (he : ent rr xs j = none) : ents rr xs p (upd' D j) = ents rr xs p D := by
  refine filterMap_congr' fun i _ => ?_
  unfold entD upd'
  by_cases e : i = j
  · subst e; simp [he]
  · simp [e]
theorem ikOf_ins {x : Oper} {n : Int} {d : Nat} {y : X} (h : ikOf x = .ins n d y) : x = ⟨.no, .mu (.l d) (.c (.one (.f (.lit (.int .i64 n))))) y, none⟩ := by
  unfold ikOf at h
  split at h
  · cases h
  · injection h with h1 h2 h3; subst h1 h2 h3; rfl
  · unfold ikOp at h
    split at h
    · cases h
    · split at h <;> cases h
theorem ikOf_mk {x : Oper} (h : ikOf x = .mk) : x = ⟨.loc, .mkm, none⟩ := by
  unfold ikOf at h
  split at h
  · rfl
  · cases h
  · unfold ikOp at h
    split at h
    · cases h
    · split at h <;> cases h
theorem ikOf_quiet {x : Oper} (h : ikOf x = .quiet) : opCls x.op = 0 := by
  unfold ikOf at h
  split at h
  · cases h
  · cases h
  · unfold ikOp at h
    split at h
    · cases h
    · split at h
      · rename_i hc; simpa using hc
      · cases h
theorem ikOf_ld {x : Oper} (h : ikOf x = .ld) : ∃ sz y, x.op = .ld sz y := by
  unfold ikOf at h
  split at h
  · cases h
  · cases h
  · unfold ikOp at h
    split at h
    · exact ⟨_, _, rfl⟩
    · split at h <;> cases h
end
end Go.A

/- Regions with a draw that fill a new map: the run. -/
namespace Go.A
section
variable {P : Program} {κ : List Tmp} {nt : Nat} {gops : Array Go.Oper} {xs : List Oper} {ms : List Nat} {m0 p b l : Nat} {Cf : Caller} {rr : Nat → R}

/-- The entries of a map in another order. -/
theorem perm_set {g : G} {w : World} {σ : Store} {id : Nat} {es es' : List (Int × V)} (R : Rel g w σ) (hid : σ[id]? = some (.mp es)) (hp : es.Perm es') : Ext g w σ g w (σ.set id (.mp es')) ∧ Rel g w (σ.set id (.mp es')) := by
  refine replace R hid (fun _ => False) rfl rfl rfl (Nat.le_refl _) (fun b hb _ => ⟨rfl, rfl, fun _ h => h⟩) (fun b h => h.elim) (fun _ _ _ h => h) (fun _ _ => rfl) (fun _ _ _ => rfl) R.nb
    (fun ver' sz' len' hs => by simp [shapeOf, hid, Ob.shape] at hs) (fun es0 h => ⟨rfl, es', rfl⟩) (fun k n h => by simp [frOf, hid, Ob.fr] at h) (fun _ _ h => by cases h) (fun H => ?_)
  obtain ⟨h1, h2, ents, clock, h3, h4⟩ := R.ob id _ hid
  exact ⟨h1, h2, ents, clock, h3, mrelP_perm hp (H.mrelP h4)⟩

theorem ald_cells {σ σ' : Store} (hs : ∀ (id ver sz : Nat) (es : List (List C)), σ[id]? = some (.cells ver sz es) → σ'[id]? = some (.cells ver sz es)) {sz : Option Nat} {v u : V} (h : ald σ sz v = some u) : ald σ' sz v = some u := by
  have key : ∀ {id ver i : Nat} {el : List C}, σ.elem id ver i = some el → σ'.elem id ver i = some el := fun {id ver i el} he => by
    unfold Store.elem at he ⊢
    rw [Option.bind_eq_some_iff] at he ⊢
    obtain ⟨o, q1, q2⟩ := he
    cases o with
    | cells v' sz' es => exact ⟨_, hs id v' sz' es q1, q2⟩
    | tok _ _ => simp [Ob.elem] at q2
    | mp _ => simp [Ob.elem] at q2
  unfold ald at h ⊢
  split at h
  · rw [Option.map_eq_some_iff] at h ⊢
    obtain ⟨c, q1, q2⟩ := h
    unfold Store.cell at q1 ⊢
    rw [Option.bind_eq_some_iff] at q1
    obtain ⟨el, q3, q4⟩ := q1
    exact ⟨c, by rw [Option.bind_eq_some_iff]; exact ⟨el, key q3, q4⟩, q2⟩
  · exact h
  · rw [Option.map_eq_some_iff] at h ⊢
    obtain ⟨c, q1, q2⟩ := h
    rw [Option.bind_eq_some_iff] at q1
    obtain ⟨el, q3, q4⟩ := q1
    exact ⟨c, by rw [Option.bind_eq_some_iff]; exact ⟨el, key q3, q4⟩, q2⟩
  · exact h
  · cases h
theorem ld_step {x : Oper} {sz : Option Nat} {y : X} (hop : x.op = .ld sz y) {r r' r1 : R} (hg : ∀ z ∈ stepX x, r'.get z = r.get z) (hs : ∀ (id ver sz : Nat) (es : List (List C)), r.st[id]? = some (.cells ver sz es) → r'.st[id]? = some (.cells ver sz es)) (h : step Cf r x = some r1) :
    ∃ v, r1 = r.put x.dst v ∧ step Cf r' x = some (r'.put x.dst v) := by
  obtain ⟨d, op, gd⟩ := x
  simp only at hop
  subst hop
  have one : stepOp Cf r d (.ld sz y) = some r1 → ∃ v, r1 = r.put d v ∧ stepOp Cf r' d (.ld sz y) = some (r'.put d v) := fun h => by
    simp only [stepOp] at h ⊢
    obtain ⟨v, h1, h2⟩ := mapped_put h
    have hy : r'.get y = r.get y := hg y (by simp [stepX, opX])
    exact ⟨v, h2, by rw [hy, ald_cells hs h1]; rfl⟩
  cases gd with
  | none => exact one h
  | some q =>
    obtain ⟨z, bb⟩ := q
    simp only [step] at h ⊢
    rw [hg z (by simp [stepX])]
    unfold aguard at h ⊢
    split at h
    · split at h
      · rename_i hb
        rw [if_pos hb]
        exact one h
      · rename_i hb
        rw [if_neg hb]
        injection h with h
        exact ⟨.tup [], h.symm, rfl⟩
    · injection h with h
      exact ⟨.tup [], h.symm, rfl⟩
    · cases h

theorem Chk3.kind (C : Chk3 P κ nt gops xs ms m0 p) {j : Nat} (hj : j < p) {x : Oper} (hx : xs[j]? = some x) : chkKind gops m0 j (ikOf x) = true :=
  (C.pre_some hj (Array.getElem?_eq_getElem (Nat.lt_of_lt_of_le hj C.p_le)) hx).2.2.2.2

/-- The machine's own run. -/
theorem run3 (C : Chk3 P κ nt gops xs ms m0 p) (hrr : ∀ i x, xs[i]? = some x → step Cf (rr i) x = some (rr (i + 1))) (h0 : (rr 0).rs = []) : ∀ j, j ≤ p →
    (rr j).st = (if m0 < j then (rr 0).st ++ [.mp ((List.range j).filterMap (ent rr xs))] else (rr 0).st) ∧ (m0 < j → valAt rr m0 = .one (.map (rr 0).st.length))
  | 0, _ => ⟨by simp, fun h => by omega⟩
  | j + 1, hj => by
    obtain ⟨ih1, ih2⟩ := run3 C hrr h0 j (by omega)
    have hxl : j < xs.length := by have := C.w.le; omega
    have hx : xs[j]? = some xs[j] := List.getElem?_eq_getElem hxl
    have hk := C.kind (by omega) hx
    have hstep := hrr j _ hx
    have quiet : ent rr xs j = none → j ≠ m0 → (rr (j + 1)).st = (rr j).st → (rr (j + 1)).st = (if m0 < j + 1 then (rr 0).st ++ [.mp ((List.range (j + 1)).filterMap (ent rr xs))] else (rr 0).st) ∧ (m0 < j + 1 → valAt rr m0 = .one (.map (rr 0).st.length)) := fun he hne hst => by
      refine ⟨?_, fun h => ih2 (by omega)⟩
      rw [hst, ih1, List.range_succ, List.filterMap_append]
      simp only [List.filterMap_cons, List.filterMap_nil, he, List.append_nil]
      by_cases h : m0 < j
      · rw [if_pos h, if_pos (by omega)]
      · rw [if_neg h, if_neg (by omega)]
    have hent : ent rr xs j = entX rr j (ikOf xs[j]) := by unfold ent; rw [ikAt_of hx]
    cases hik : ikOf xs[j] with
    | bad => rw [hik] at hk; simp [chkKind] at hk
    | quiet =>
      rw [hik] at hent
      refine quiet hent (fun e => ?_) ?_
      · subst e
        have := C.ismk
        rw [ikAt_of hx, hik] at this
        simp [isMk] at this
      · obtain ⟨v, σ1, h1, h2⟩ := run_step hrr hx
        have hc := ikOf_quiet hik
        rw [h1, put_st]
        rcases h2 with h2 | h2
        · exact h2
        · exact h2.1 (by omega)
    | ld =>
      rw [hik] at hent
      refine quiet hent (fun e => ?_) ?_
      · subst e
        have := C.ismk
        rw [ikAt_of hx, hik] at this
        simp [isMk] at this
      · obtain ⟨sz, y, hop⟩ := ikOf_ld hik
        obtain ⟨v, σ1, h1, h2⟩ := run_step hrr hx
        rw [h1, put_st]
        rcases h2 with h2 | h2
        · exact h2
        · exact h2.1 (by rw [hop]; simp [opCls])
    | mk =>
      rw [hik] at hk hent
      simp only [chkKind, beq_iff_eq] at hk
      subst hk
      have hxe := ikOf_mk hik
      rw [hxe] at hstep
      simp only [step, stepOp, Option.some.injEq] at hstep
      have hnone : (List.range j).filterMap (ent rr xs) = [] := by
        rw [List.filterMap_eq_nil_iff]
        intro i hi
        have hij : i < j := by simpa using hi
        have hxi : xs[i]? = some (xs[i]'(by omega)) := List.getElem?_eq_getElem (by omega)
        have hki := C.kind (by omega) hxi
        unfold ent
        rw [ikAt_of hxi]
        cases hii : ikOf (xs[i]'(by omega)) with
        | ins n d y =>
          rw [hii] at hki
          simp only [chkKind, Bool.and_eq_true, decide_eq_true_eq, beq_iff_eq] at hki
          omega
        | _ => rfl
      refine ⟨?_, fun _ => ?_⟩
      · rw [← hstep, List.range_succ, List.filterMap_append, hnone]
        simp only [List.filterMap_cons, List.filterMap_nil, hent, entX, List.append_nil, if_pos (Nat.lt_succ_self j)]
        rw [if_neg (by omega)] at ih1
        simp only [R.put, R.alloc, ih1]
      · rw [if_neg (by omega)] at ih1
        unfold valAt
        rw [← hstep]
        simp [R.put, R.alloc, ih1]
    | ins n d y =>
      rw [hik] at hk hent
      simp only [chkKind, Bool.and_eq_true, decide_eq_true_eq, beq_iff_eq] at hk
      obtain ⟨⟨hd, hm⟩, _⟩ := hk
      have hlt : m0 < j := by omega
      rw [if_pos hlt] at ih1
      have hxe := ikOf_ins hik
      rw [hxe] at hstep
      have hrs := run_rs hrr h0 j (by omega)
      have hget : (rr j).get (.l d) = .one (.map (rr 0).st.length) := by
        show (rr j).rs.getD d vun = _
        rw [hrs, List.getD_eq_getElem?_getD, rev_get (valAt rr) hd, hm]
        exact ih2 hlt
      have hnew := (ents_new (rr := rr) C.keys (D := fun i => decide (i < j)) (n := n) (v := (rr j).get y) (by omega : j < p) (by simp) (by rw [hent]; rfl)).1
      have hents : ents rr xs p (fun i => decide (i < j)) = (List.range j).filterMap (ent rr xs) := by
        unfold ents
        obtain ⟨q, hq⟩ : ∃ q, p = j + q := ⟨p - j, by omega⟩
        rw [hq, List.range_add, List.filterMap_append]
        have h1 : (List.range j).filterMap (entD rr xs fun i => decide (i < j)) = (List.range j).filterMap (ent rr xs) := filterMap_congr' fun i hi => by
          have : i < j := by simpa using hi
          simp [entD, this]
        have h2 : ((List.range q).map (j + ·)).filterMap (entD rr xs fun i => decide (i < j)) = [] := by
          rw [List.filterMap_eq_nil_iff]
          intro i hi
          obtain ⟨k, _, rfl⟩ := List.mem_map.1 hi
          have : ¬ j + k < j := by omega
          simp [entD, this]
        rw [h1, h2, List.append_nil]
      rw [hents] at hnew
      simp only [step, stepOp, hget] at hstep
      have hk2 : (rr j).get (.c (.one (.f (.lit (.int .i64 n))))) = .one (.f (.lit (.int .i64 n))) := rfl
      rw [hk2] at hstep
      simp only [amu, ih1, List.getElem?_concat_length, Option.bind_some, Ob.entries, Option.map_some, Option.some.injEq] at hstep
      refine ⟨?_, fun _ => ih2 hlt⟩
      rw [← hstep, if_pos (by omega), List.range_succ, List.filterMap_append]
      simp only [List.filterMap_cons, List.filterMap_nil, hent, entX, R.put, muTo, R.setOb, ih1, mput_none hnew]
      simp
end
end Go.A

/- Regions with a draw that fill a new map: sound. -/
namespace Go.A
section
variable {P : Program} {κ : List Tmp} {nt : Nat} {gops : Array Go.Oper} {xs : List Oper} {ms : List Nat} {m0 p b l : Nat} {Cf : Caller} {rr : Nat → R}

theorem st3_same {D : Nat → Bool} {j : Nat} (he : ent rr xs j = none) (hne : j ≠ m0) : stOf3 rr xs p m0 (upd' D j) = stOf3 rr xs p m0 D := by
  unfold stOf3
  rw [ents_same he]
  have : upd' D j m0 = D m0 := by simp [upd', Ne.symm hne]
  rw [this]

theorem local3 (S : Sound P Cf) (C : Chk3 P κ nt gops xs ms m0 p) (hrr : ∀ i x, xs[i]? = some x → step Cf (rr i) x = some (rr (i + 1))) (h0 : (rr 0).rs = []) : Local P κ nt gops xs (valAt rr) (envOf rr xs p) (stOf3 rr xs p m0) p b l := by
  intro j o x D g w a next Q hj ho hx hDj hE hcl hDp R0 F k
  have hpN : p ≤ xs.length := C.w.le
  obtain ⟨c1, c2, c3, _, c5⟩ := C.pre_some hj ho hx
  have hA : ∀ i, Reach gops j i → D i = true := fun i h => reach_done hcl h hE
  have hB : ∀ i, Reach gops i j → D i = false := fun i h => by
    cases hi : D i with
    | false => rfl
    | true =>
      have := reach_done hcl h (hcl i hi)
      rw [hDj] at this
      cases this
  let r' : R := ⟨(List.range j).reverse.map (valAt rr), envOf rr xs p D, stOf3 rr xs p m0 D, b, l⟩
  have hrs := run_rs hrr h0 j (by omega)
  obtain ⟨_, henv⟩ := run_env C.w hrr j (Nat.le_of_lt hj)
  have hget : ∀ y ∈ stepX x, r'.get y = (rr j).get y := fun y hy => by
    cases y with
    | l d => show ((List.range j).reverse.map (valAt rr)).getD d vun = (rr j).rs.getD d vun; rw [hrs]
    | c v => rfl
    | s q =>
      show (envOf rr xs p D).getD q vun = (rr j).env.getD q vun
      rw [envOf_getD C.w hrr, henv]
      unfold envAt
      cases hi : wr xs p q with
      | none => rfl
      | some i =>
        obtain ⟨hip, x', hx', hw⟩ := wr_some hi
        have hread : readsSlot q x = true := by
          unfold readsSlot
          rw [List.any_eq_true]
          exact ⟨_, hy, by simp⟩
        have : D i = decide (i < j) := by
          rcases Nat.lt_trichotomy i j with hlt | rfl | hlt
          · rcases (C.pair hlt hj hx' hx).1 with h | h
            · exfalso
              unfold envFree at h
              rw [hw] at h
              simp [hread] at h
            · rw [hA i h]; simp [hlt]
          · rw [hDj]; simp
          · rcases (C.pair hlt hip hx hx').1 with h | h
            · exfalso
              unfold envFree at h
              rw [hw] at h
              simp [hread] at h
            · rw [hB i h]; simp; omega
        simp only [this]
  have hent : ent rr xs j = entX rr j (ikOf x) := by unfold ent; rw [ikAt_of hx]
  obtain ⟨hst, hm0⟩ := run3 C hrr h0 j (Nat.le_of_lt hj)
  have fin : ∀ {v : V} {σ1 σ2 : Store}, rr (j + 1) = ((rr j).at σ1).put x.dst v → (r'.at σ2).put x.dst v = ⟨valAt rr j :: (List.range j).reverse.map (valAt rr), envOf rr xs p (upd' D j), σ2, b, l⟩ := fun {v σ1 σ2} h1 => by
    have he := envOf_upd C.w hrr (D := D) hj hx h1
    have hval : valAt rr j = (((rr j).at σ1).put x.dst v).rs.headD vun := by unfold valAt; rw [h1]
    rw [he, hval]
    cases x.dst <;> rfl
  have quietly : ent rr xs j = none → j ≠ m0 → (∃ v, rr (j + 1) = (rr j).put x.dst v ∧ step Cf r' x = some (r'.put x.dst v)) → if Region.wanted o (yielded gops a.tmps) then o.wp P a w next Q else next (a.put o.dst undef) w := fun he hne ⟨v, h1, h2⟩ => by
    have hf : (r'.at (stOf3 rr xs p m0 D)).put x.dst v = _ := fin (σ1 := (rr j).st) h1
    have h2' : step Cf r' x = some ⟨valAt rr j :: (List.range j).reverse.map (valAt rr), envOf rr xs p (upd' D j), stOf3 rr xs p m0 D, b, l⟩ := by rw [h2, ← hf]; rfl
    rw [← st3_same (rr := rr) (p := p) he hne] at h2'
    exact step_sound (r := r') S R0 F c1 c2 c3 h2' (fun g' w' u H R1 _ F1 => k g' w' u H R1 F1) (fun _ h => h)
  cases hik : ikOf x with
  | bad => rw [hik] at c5; simp [chkKind] at c5
  | quiet =>
    rw [hik] at hent
    refine quietly hent (fun e => ?_) ?_
    · subst e
      have := C.ismk
      rw [ikAt_of hx, hik] at this
      simp [isMk] at this
    · have hc := ikOf_quiet hik
      obtain ⟨n, hn⟩ := exX (rr j).get (stepX x)
      exact step_quiet (r' := r') (n := n) (by omega) hget (hn n (Nat.le_refl _)) (fun h => by omega) (fun h => by omega) (hrr j x hx)
  | ld =>
    rw [hik] at hent
    refine quietly hent (fun e => ?_) ?_
    · subst e
      have := C.ismk
      rw [ikAt_of hx, hik] at this
      simp [isMk] at this
    · obtain ⟨sz, y, hop⟩ := ikOf_ld hik
      refine ld_step (r' := r') hop hget (fun id ver sz es hid => ?_) (hrr j x hx)
      have h1 : (rr 0).st[id]? = some (.cells ver sz es) := by
        rw [hst] at hid
        split at hid
        · rcases Nat.lt_or_ge id (rr 0).st.length with h | h
          · rwa [List.getElem?_append_left h] at hid
          · rw [List.getElem?_append_right h] at hid
            cases hq : id - (rr 0).st.length with
            | zero => rw [hq] at hid; simp at hid
            | succ q => rw [hq] at hid; simp at hid
        · exact hid
      show (stOf3 rr xs p m0 D)[id]? = _
      unfold stOf3
      split
      · rw [List.getElem?_append_left (lt_of_some h1)]; exact h1
      · exact h1
  | mk =>
    rw [hik] at c5 hent
    simp only [chkKind, beq_iff_eq] at c5
    subst c5
    have hxe := ikOf_mk hik
    have hstep := hrr j x hx
    rw [hxe] at hstep
    simp only [step, stepOp, Option.some.injEq] at hstep
    rw [if_neg (by omega)] at hst
    have hD0 : stOf3 rr xs p j D = (rr 0).st := by unfold stOf3; rw [hDj]; rfl
    have hnone : ents rr xs p (upd' D j) = [] := by
      unfold ents
      rw [List.filterMap_eq_nil_iff]
      intro i hi
      have hip : i < p := by simpa using hi
      by_cases e : i = j
      · subst e
        simp only [entD, upd', if_true, hent, entX]
      · have hxi : xs[i]? = some (xs[i]'(by omega)) := List.getElem?_eq_getElem (by omega)
        have hki := C.kind hip hxi
        have : upd' D j i = D i := by simp [upd', e]
        unfold entD
        rw [this]
        cases hDi : D i with
        | false => rfl
        | true =>
          simp only [if_true]
          unfold ent
          rw [ikAt_of hxi]
          cases hii : ikOf (xs[i]'(by omega)) with
          | ins n d y =>
            rw [hii] at hki
            simp only [chkKind, Bool.and_eq_true, decide_eq_true_eq, beq_iff_eq] at hki
            have := hcl i hDi j (by simpa using hki.2)
            rw [hDj] at this
            cases this
          | _ => rfl
    have hnew : stOf3 rr xs p j (upd' D j) = (rr 0).st ++ [.mp []] := by
      unfold stOf3
      rw [hnone]
      simp [upd']
    have h1 : rr (j + 1) = ((rr j).at ((rr 0).st ++ [.mp []])).put x.dst (.one (.map (rr 0).st.length)) := by
      rw [← hstep, hxe]
      simp only [R.put, R.alloc, R.at, hst]
    have h2 : step Cf r' x = some ((r'.at ((rr 0).st ++ [.mp []])).put x.dst (.one (.map (rr 0).st.length))) := by
      rw [hxe]
      have hr : r'.st = (rr 0).st := hD0
      simp only [step, stepOp, R.put, R.alloc, R.at, hr]
    rw [fin h1, ← hnew] at h2
    exact step_sound (r := r') S R0 F c1 c2 c3 h2 (fun g' w' u H R1 _ F1 => k g' w' u H R1 F1) (fun _ h => h)
  | ins n d y =>
    rw [hik] at c5 hent
    simp only [chkKind, Bool.and_eq_true, decide_eq_true_eq, beq_iff_eq] at c5
    obtain ⟨⟨hd, hm⟩, hedge⟩ := c5
    have hDm : D m0 = true := hE m0 (by simpa using hedge)
    have hlt : m0 < j := by omega
    rw [if_pos hlt] at hst
    have hxe := ikOf_ins hik
    have hstep := hrr j x hx
    have hgetl : (rr j).get (.l d) = .one (.map (rr 0).st.length) := by
      show (rr j).rs.getD d vun = _
      rw [hrs, List.getD_eq_getElem?_getD, rev_get (valAt rr) hd, hm]
      exact hm0 hlt
    have hg1 : r'.get (.l d) = .one (.map (rr 0).st.length) := by rw [hget _ (by rw [hxe]; simp [stepX, opX])]; exact hgetl
    have hg2 : r'.get y = (rr j).get y := hget _ (by rw [hxe]; simp [stepX, opX])
    have hr : r'.st = (rr 0).st ++ [.mp (ents rr xs p D)] := by show stOf3 rr xs p m0 D = _; unfold stOf3; rw [hDm]; rfl
    obtain ⟨hnone, hperm⟩ := ents_new (rr := rr) C.keys (n := n) (v := (rr j).get y) hj hDj (by rw [hent]; rfl)
    have hnew : stOf3 rr xs p m0 (upd' D j) = (rr 0).st ++ [.mp (ents rr xs p (upd' D j))] := by
      unfold stOf3
      have : upd' D j m0 = true := by simp [upd', hDm]
      rw [this]
      rfl
    have h1 : ∃ σ1, rr (j + 1) = ((rr j).at σ1).put x.dst vun := by
      rw [hxe] at hstep
      have hk2 : (rr j).get (.c (.one (.f (.lit (.int .i64 n))))) = .one (.f (.lit (.int .i64 n))) := rfl
      simp only [step, stepOp, hgetl, hk2] at hstep
      simp only [amu, hst, List.getElem?_concat_length, Option.bind_some, Ob.entries, Option.map_some, Option.some.injEq] at hstep
      rw [← hstep, hxe]
      exact ⟨_, rfl⟩
    obtain ⟨σ1, h1⟩ := h1
    have h2 : step Cf r' x = some ((r'.at ((rr 0).st ++ [.mp (ents rr xs p D ++ [(n, (rr j).get y)])])).put x.dst vun) := by
      rw [hxe]
      have hk2 : r'.get (.c (.one (.f (.lit (.int .i64 n))))) = .one (.f (.lit (.int .i64 n))) := rfl
      simp only [step, stepOp, hg1, hk2, hg2]
      simp only [amu, hr, List.getElem?_concat_length, Option.bind_some, Ob.entries, Option.map_some, muTo, R.setOb, mput_none hnone, R.put, R.at]
      simp
    rw [fin h1] at h2
    refine step_sound (r := r') S R0 F c1 c2 c3 h2 (fun g' w' u H R1 _ F1 => ?_) (fun _ h => h)
    have hid : ((rr 0).st ++ [Ob.mp (ents rr xs p D ++ [(n, (rr j).get y)])])[(rr 0).st.length]? = some (.mp (ents rr xs p D ++ [(n, (rr j).get y)])) := by simp
    obtain ⟨H2, R2⟩ := perm_set R1 hid hperm
    have hset : ((rr 0).st ++ [Ob.mp (ents rr xs p D ++ [(n, (rr j).get y)])]).set (rr 0).st.length (.mp (ents rr xs p (upd' D j))) = stOf3 rr xs p m0 (upd' D j) := by rw [hnew]; simp
    have H2' : Ext g' w' ((rr 0).st ++ [.mp (ents rr xs p D ++ [(n, (rr j).get y)])]) g' w' (stOf3 rr xs p m0 (upd' D j)) := by rw [← hset]; exact H2
    have R2' : Rel g' w' (stOf3 rr xs p m0 (upd' D j)) := by rw [← hset]; exact R2
    exact k g' w' u (H.trans H2') R2' (F1.ext H2' rfl rfl)

theorem draws_ins (hm : P.follows .mixedOrders = true) (Cf : Caller) (S : Sound P Cf) (κ : List Tmp) (nt id : Nat) (gops : Array Go.Oper) (xs : List Oper) (hchk : chkIns P κ nt gops xs = true) (r r1 : R) (hr0 : r.rs = []) (hsteps : steps Cf xs r = some r1) : RegOk P κ nt id gops r r1 := by
  intro g w a Q R0 F hend
  obtain ⟨ms, m0, p, C⟩ := chk3_of hchk
  obtain ⟨rr, k1, k2, hrr⟩ := steps_seq xs r r1 hsteps
  have h0 : (rr 0).rs = [] := by rw [k1]; exact hr0
  have hpN : p ≤ xs.length := C.w.le
  refine wp_region_any hm ?_
  obtain ⟨D1, D2⟩ := drawn R0 1
  have hDof : ∀ i, Dof (Array.replicate gops.size false) i = false := fun i => by
    unfold Dof
    rw [Array.getD_eq_getD_getElem?, Array.getElem?_replicate]
    split <;> rfl
  have hst0 : stOf3 rr xs p m0 (Dof (Array.replicate gops.size false)) = r.st := by
    unfold stOf3
    rw [hDof, k1]
    rfl
  have henv0 : ∀ q, (envOf rr xs p (Dof (Array.replicate gops.size false))).getD q vun = r.env.getD q vun := fun q => by
    rw [envOf_getD C.w hrr]
    unfold envAt
    split <;> simp [hDof, k1]
  have hend' : ∀ g' w' a' loc, Ext g w r.st g' w' (rr gops.size).st → Rel g' w' (rr gops.size).st → Fr κ loc nt g' w' (rr gops.size) a' → Q .normal a' w' := fun g' w' a' loc H R1 F1 => by
    rw [← C.len, k2] at H R1 F1
    exact hend g' w' a' loc H R1 F1
  refine mid_run (b := 0) (l := 0) (v := valAt rr) (envD := envOf rr xs p) (σD := stOf3 rr xs p m0) (g0 := g) (w0 := w) (σ0 := r.st) (rr := rr) S C.plan (local3 S C hrr h0) hrr (run_rs hrr h0 p hpN) (fun D => by simp [envOf, k1, F.len]) F.nd F.bd (fun D hD => ⟨?_, ?_⟩) hend' gops.size (Array.replicate gops.size false) g (w.drewN 1) a (by simp) (fun i _ => hDof i) (fun j hj => by rw [hDof] at hj; cases hj) ?_ ⟨?_, ?_, F.size, F.df, fun i t ht => ?_, fun i t _ hD => by rw [hDof] at hD; cases hD⟩
  · -- all done: the store
    have h := (run3 C hrr h0 p (Nat.le_refl _)).1
    rw [if_pos C.m0p] at h
    rw [h]
    unfold stOf3
    rw [hD]
    simp only [C.m0p, decide_true, if_true]
    congr 3
    exact filterMap_congr' fun i hi => by
      have : i < p := by simpa using hi
      simp [entD, hD, this]
  · -- the slots
    obtain ⟨q1, q2⟩ := run_env C.w hrr p (Nat.le_refl _)
    refine List.ext_getElem? fun q => ?_
    by_cases hq : q < (rr 0).env.length
    · have e1 := envOf_getD (D := D) (q := q) C.w hrr
      have e2 := q2 q
      have e3 : envAt rr xs p D q = envAt rr xs p (fun k => decide (k < p)) q := by
        congr 1
        funext k
        exact hD k
      rw [e3, ← e2] at e1
      rw [List.getD_eq_getElem?_getD, List.getD_eq_getElem?_getD] at e1
      have l1 : q < (envOf rr xs p D).length := by simpa [envOf] using hq
      have l2 : q < (rr p).env.length := by omega
      rw [List.getElem?_eq_getElem l1, List.getElem?_eq_getElem l2] at e1 ⊢
      simpa using e1
    · rw [List.getElem?_eq_none (by simp [envOf]; omega), List.getElem?_eq_none (by omega)]
  · -- the count
    unfold left
    exact Nat.le_trans (List.length_filter_le _ _) (by simp)
  · rw [hst0]; exact D1
  · rw [hst0]; exact D2
  · rw [hst0, henv0]
    exact D1.vrel _ _ (F.env i t ht)
end
end Go.A
