/- Code, functions, calls: the machine is sound. -/
import Derived.Test.YtecjccggbbbaaaaGreatSoundD
set_option linter.unusedVariables false
set_option linter.unusedSimpArgs false
namespace Go.A

/-! ### The machine's own base and limit stay -/
theorem clear_base {s s' : St} {live : List Bool} {objs : Nat} (h : s.clear live objs = some s') : s'.base = s.base ∧ s'.lim = s.lim := by
  unfold St.clear at h
  rw [Option.map_eq_some_iff] at h
  obtain ⟨σ', _, rfl⟩ := h
  exact ⟨rfl, rfl⟩
theorem spec_base {sp : Spec} {s s1 : St} (h : specE sp s = some s1) : s1.base = s.base ∧ s1.lim = s.lim := by
  unfold specE at h
  rw [Option.bind_eq_some_iff] at h
  obtain ⟨r, _, h⟩ := h
  unfold specTo at h
  split at h
  · split at h
    · cases h
    · simp only [Option.bind_eq_some_iff, Option.map_eq_some_iff] at h
      obtain ⟨es, _, ds, _, ds', _, h⟩ := h
      subst h
      exact ⟨rfl, rfl⟩
  · cases h
theorem exec_base (T : Nat → Option Entry) : ∀ (n : Nat) (c : Code) (s : St) (e : Ex) (s' : St), execN T n c s = some (e, s') → s'.base = s.base ∧ s'.lim = s.lim
  | 0, _, _, _, _, h => by simp [execN] at h
  | n + 1, c, s, e, s', h => by
    have ih := exec_base T n
    cases c <;> simp only [execN] at h
    case skip => injection h with h; injection h with h1 h2; subst h2; exact ⟨rfl, rfl⟩
    case label => injection h with h; injection h with h1 h2; subst h2; exact ⟨rfl, rfl⟩
    case ret => injection h with h; injection h with h1 h2; subst h2; exact ⟨rfl, rfl⟩
    case reg ops =>
      rw [Option.map_eq_some_iff] at h
      obtain ⟨r, _, h⟩ := h
      injection h with h1 h2
      subst h2
      exact ⟨rfl, rfl⟩
    case regd ps ops =>
      rw [Option.map_eq_some_iff] at h
      obtain ⟨r, _, h⟩ := h
      injection h with h1 h2
      subst h2
      exact ⟨rfl, rfl⟩
    case spec sp =>
      rw [Option.map_eq_some_iff] at h
      obtain ⟨s1, h1, h⟩ := h
      injection h with _ h2
      subst h2
      exact spec_base h1
    case exit id live objs =>
      rw [Option.map_eq_some_iff] at h
      obtain ⟨s1, h1, h⟩ := h
      injection h with _ h2
      subst h2
      exact clear_base h1
    case goto id live objs =>
      rw [Option.map_eq_some_iff] at h
      obtain ⟨s1, h1, h⟩ := h
      injection h with _ h2
      subst h2
      exact clear_base h1
    case seq a b =>
      rw [Option.bind_eq_some_iff] at h
      obtain ⟨⟨e1, s1⟩, h1, h2⟩ := h
      have i1 := ih a s e1 s1 h1
      cases e1 <;> simp only [seqK] at h2
      case normal => have i2 := ih b s1 e s' h2; exact ⟨i2.1.trans i1.1, i2.2.trans i1.2⟩
      all_goals
        injection h2 with h2
        injection h2 with _ h2
        subst h2
        exact i1
    case cond x a b =>
      unfold condK at h
      split at h
      · split at h
        · exact ih _ _ _ _ h
        · exact ih _ _ _ _ h
      · cases h
    case block id body =>
      rw [Option.map_eq_some_iff] at h
      obtain ⟨⟨e1, s1⟩, h1, h2⟩ := h
      have i1 := ih _ _ _ _ h1
      unfold blockK at h2
      split at h2
      · rename_i heq
        injection heq with q1 q2
        subst q2
        split at h2 <;> (injection h2 with _ h2; subst h2; exact i1)
      · injection h2 with _ h2
        subst h2
        exact i1
    case loop live objs body =>
      rw [Option.bind_eq_some_iff] at h
      obtain ⟨⟨e1, s1⟩, h1, h2⟩ := h
      have i1 := ih _ _ _ _ h1
      cases e1 <;> simp only [loopK] at h2
      case normal =>
        rw [Option.bind_eq_some_iff] at h2
        obtain ⟨s2, h2, h3⟩ := h2
        have i2 := clear_base h2
        have i3 := ih _ _ _ _ h3
        exact ⟨i3.1.trans (i2.1.trans i1.1), i3.2.trans (i2.2.trans i1.2)⟩
      all_goals
        injection h2 with h2
        injection h2 with _ h2
        subst h2
        exact i1
    case scope body => exact ih _ _ _ _ h
    case sc body cur =>
      rw [Option.bind_eq_some_iff] at h
      obtain ⟨⟨e1, s1⟩, h1, h2⟩ := h
      have i1 := ih _ _ _ _ h1
      unfold scK at h2
      split at h2
      · rename_i heq
        injection heq with q1 q2
        subst q2
        split at h2
        · have i2 := ih _ _ _ _ h2; exact ⟨i2.1.trans i1.1, i2.2.trans i1.2⟩
        · injection h2 with h2; injection h2 with _ h2; subst h2; exact i1
      · injection h2 with h2
        injection h2 with _ h2
        subst h2
        exact i1

/-! ### The check of code -/
structure Draws where
  a : List Tmp → Nat → Array Go.Oper → List Oper → Bool
  b : List Tmp → Nat → Array Go.Oper → List (Nat × Nat) → List Oper → Bool
  c : List Tmp → Nat → Go.Code → Spec → Bool
def chkCode (P : Program) (CD : Draws) (κ : List Tmp) (nt : Nat) : Go.Code → Code → Bool
  | .skip, .skip => true
  | c, .spec sp => CD.c κ nt c sp
  | .region _ ops draw, .regd ps xs => draw && CD.b κ nt ops ps xs
  | .region _ ops draw, .reg xs => if draw then CD.a κ nt ops xs else chkOps P κ nt ops [] ops.toList xs
  | .seq a b, .seq a' b' => chkCode P CD κ nt a a' && chkCode P CD κ nt b b'
  | .cond c a b, .cond x a' b' => okX κ [] c x && chkCode P CD κ nt a a' && chkCode P CD κ nt b b'
  | .block id b, .block id' b' => (id == id') && chkCode P CD κ nt b b'
  | .loop b, .loop live _ b' => (live.length == κ.length) && chkCode P CD κ nt b b'
  | .exit id, .exit id' live _ => (id == id') && (live.length == κ.length)
  | .scope b, .scope b' => chkCode P CD κ nt b b'
  | .label l, .label l' => l == l'
  | .goto l, .goto l' live _ => (l == l') && (live.length == κ.length)
  | .ret, .ret live => live.length == κ.length
  | _, _ => false

def RegOk (P : Program) (κ : List Tmp) (nt id : Nat) (gops : Array Go.Oper) (r r1 : R) : Prop := ∀ (g : G) (w : World) (a : Act) (Q : Exit → Act → World → Prop),
  Rel g w r.st → Fr κ [] nt g w r a → (∀ g' w' a' loc', Ext g w r.st g' w' r1.st → Rel g' w' r1.st → Fr κ loc' nt g' w' r1 a' → Q .normal a' w') → (Go.Code.region id gops true).wp P Q a w
structure DrawOk (P : Program) (CD : Draws) : Prop where
  a : ∀ (Cf : Caller), Sound P Cf → ∀ (κ : List Tmp) (nt id : Nat) (gops : Array Go.Oper) (xs : List Oper), CD.a κ nt gops xs = true → ∀ (r r1 : R), r.rs = [] → steps Cf xs r = some r1 → RegOk P κ nt id gops r r1
  b : ∀ (Cf : Caller), Sound P Cf → ∀ (κ : List Tmp) (nt id : Nat) (gops : Array Go.Oper) (ps : List (Nat × Nat)) (xs : List Oper), CD.b κ nt gops ps xs = true → ∀ (r r1 : R), r.rs = [] → regD Cf ps xs r = some r1 → RegOk P κ nt id gops r r1
  lab : ∀ κ nt c sp, CD.c κ nt c sp = true → ∀ l, Go.findLabel c l = none
  c : ∀ (κ : List Tmp) (nt : Nat) (c : Go.Code) (sp : Spec), CD.c κ nt c sp = true → ∀ (s s1 : St), specE sp s = some s1 → ∀ (g : G) (w : World) (a : Act) (Q : Exit → Act → World → Prop),
    Rel g w s.st → Fr κ [] nt g w ⟨[], s.env, s.st, s.base, s.lim⟩ a → (∀ g' w' a', Ext g w s.st g' w' s1.st → Rel g' w' s1.st → Fr κ [] nt g' w' ⟨[], s1.env, s1.st, s1.base, s1.lim⟩ a' → Q .normal a' w') → c.wp P Q a w

section
variable {P : Program} {CD : Draws} {κ : List Tmp} {nt : Nat}

theorem find_none' (hD : DrawOk P CD) : ∀ {c : Go.Code} {ac : Code} {l : Nat}, chkCode P CD κ nt c ac = true → findLabel ac l = none → Go.findLabel c l = none
  | c, .seq a' b', l, h, hf => by
    cases c <;> simp only [chkCode, Bool.false_eq_true] at h
    rename_i a b
    simp only [Bool.and_eq_true] at h
    simp only [findLabel] at hf
    split at hf
    · cases hf
    · rename_i hfa
      simp only [Go.findLabel, find_none' hD h.1 hfa, find_none' hD h.2 hf]
  | c, .label l', l, h, hf => by
    cases c <;> simp only [chkCode, Bool.false_eq_true] at h
    rename_i l''
    simp only [beq_iff_eq] at h
    subst h
    simp only [findLabel] at hf
    split at hf
    · cases hf
    · rename_i hne
      have : (l'' == l) = false := by simpa using hne
      simp [Go.findLabel, this]
  | c, .skip, l, h, hf => by cases c <;> simp_all [chkCode, Go.findLabel]
  | c, .reg _, l, h, hf => by cases c <;> simp_all [chkCode, Go.findLabel]
  | c, .regd _ _, l, h, hf => by cases c <;> simp_all [chkCode, Go.findLabel]
  | c, .spec sp, l, h, hf => hD.lab κ nt c sp (by simpa only [chkCode] using h) l
  | c, .cond _ _ _, l, h, hf => by cases c <;> simp_all [chkCode, Go.findLabel]
  | c, .block _ _, l, h, hf => by cases c <;> simp_all [chkCode, Go.findLabel]
  | c, .loop _ _ _, l, h, hf => by cases c <;> simp_all [chkCode, Go.findLabel]
  | c, .exit _ _ _, l, h, hf => by cases c <;> simp_all [chkCode, Go.findLabel]
  | c, .scope _, l, h, hf => by cases c <;> simp_all [chkCode, Go.findLabel]
  | c, .sc _ _, l, h, hf => by cases c <;> simp_all [chkCode]
  | c, .goto _ _ _, l, h, hf => by cases c <;> simp_all [chkCode, Go.findLabel]
  | c, .ret _, l, h, hf => by cases c <;> simp_all [chkCode, Go.findLabel]
theorem find_some' (hD : DrawOk P CD) : ∀ {c : Go.Code} {ac ar : Code} {l : Nat}, chkCode P CD κ nt c ac = true → findLabel ac l = some ar → ∃ r, Go.findLabel c l = some r ∧ chkCode P CD κ nt r ar = true
  | c, .seq a' b', ar, l, h, hf => by
    cases c <;> simp only [chkCode, Bool.false_eq_true] at h
    rename_i a b
    simp only [Bool.and_eq_true] at h
    simp only [findLabel] at hf
    split at hf
    · rename_i rest hfa
      injection hf with hf
      subst hf
      obtain ⟨r, h1, h2⟩ := find_some' hD h.1 hfa
      exact ⟨.seq r b, by simp only [Go.findLabel, h1], by simp [chkCode, h2, h.2]⟩
    · rename_i hfa
      obtain ⟨r, h1, h2⟩ := find_some' hD h.2 hf
      exact ⟨r, by simp only [Go.findLabel, find_none' hD h.1 hfa, h1], h2⟩
  | c, .label l', ar, l, h, hf => by
    cases c <;> simp only [chkCode, Bool.false_eq_true] at h
    rename_i l''
    simp only [beq_iff_eq] at h
    subst h
    simp only [findLabel] at hf
    split at hf
    · rename_i he
      injection hf with hf
      subst hf
      exact ⟨.skip, by simp [Go.findLabel, he], rfl⟩
    · cases hf
  | c, .skip, _, l, h, hf => by simp [findLabel] at hf
  | c, .reg _, _, l, h, hf => by simp [findLabel] at hf
  | c, .cond _ _ _, _, l, h, hf => by simp [findLabel] at hf
  | c, .block _ _, _, l, h, hf => by simp [findLabel] at hf
  | c, .loop _ _ _, _, l, h, hf => by simp [findLabel] at hf
  | c, .exit _ _ _, _, l, h, hf => by simp [findLabel] at hf
  | c, .scope _, _, l, h, hf => by simp [findLabel] at hf
  | c, .sc _ _, _, l, h, hf => by simp [findLabel] at hf
  | c, .goto _ _ _, _, l, h, hf => by simp [findLabel] at hf
  | c, .ret _, _, l, h, hf => by simp [findLabel] at hf
end

/-! ### Loops and scopes, from within -/
section
variable {P : Program} {a : Act} {w : World} {Q : Exit → Act → World → Prop}
def RL (P : Program) (c : Go.Code) (Q : Exit → Act → World → Prop) (a : Act) (w : World) : Prop :=
  ∀ (b : Frame) (k : List Item) (cs : List Frame), ∃ e a' w', Q e a' w' ∧ Arrives P (lone (b.at a (.code c :: .inLoop c :: k)) cs w) b k cs e a' w'
theorem wp_of_rl {c : Go.Code} (h : RL P c Q a w) : (Go.Code.loop c).wp P Q a w := fun b k cs =>
  let ⟨e, a', w', q, r⟩ := h b k cs; ⟨e, a', w', q, .of_steps (.one step_loop) r⟩
theorem rl_step {c : Go.Code} (h : c.wp P (Exit.then (RL P c Q) Q) a w) : RL P c Q a w := by
  intro b k cs
  obtain ⟨e, a₁, w₁, hq, harr⟩ := h b (.inLoop c :: k) cs
  cases e with
  | normal =>
    obtain ⟨e₂, a₂, w₂, hq₂, harr₂⟩ := hq b k cs
    exact ⟨e₂, a₂, w₂, hq₂, .of_steps (Steps.trans harr (.one step_inLoop)) harr₂⟩
  | exit id => exact ⟨_, a₁, w₁, hq, .pass (x := .inLoop c) rfl (fun _ _ => .inl (by simp)) harr⟩
  | goto l => exact ⟨_, a₁, w₁, hq, .pass (x := .inLoop c) rfl (fun _ _ => .inl (by simp)) harr⟩
  | ret => exact ⟨_, a₁, w₁, hq, .pass (x := .inLoop c) rfl (fun _ _ => .inl (by simp)) harr⟩
  | panic ch => exact ⟨_, a₁, w₁, hq, .pass (x := .inLoop c) rfl (fun _ _ => .inl (by simp)) harr⟩
  | outgrown => exact ⟨_, a₁, w₁, hq, .pass (x := .inLoop c) rfl (fun _ _ => .inl (by simp)) harr⟩
def RS (P : Program) (body : Go.Code) (Q : Exit → Act → World → Prop) (rest : Go.Code) (a : Act) (w : World) : Prop :=
  ∀ (b : Frame) (k : List Item) (cs : List Frame), ∃ e a' w', Q e a' w' ∧ Arrives P (lone (b.at a (.code rest :: .inScope body :: k)) cs w) b k cs e a' w'
def Exit.inSc (P : Program) (body : Go.Code) (Q : Exit → Act → World → Prop) : Exit → Act → World → Prop
  | .goto l, a, w => match Go.findLabel body l with
    | some r => RS P body Q r a w
    | none => Q (.goto l) a w
  | e, a, w => Q e a w
theorem wp_of_rs {body : Go.Code} (h : RS P body Q body a w) : (Go.Code.scope body).wp P Q a w := fun b k cs =>
  let ⟨e, a', w', q, r⟩ := h b k cs; ⟨e, a', w', q, .of_steps (.one step_scope) r⟩
theorem rs_step {body rest : Go.Code} (h : rest.wp P (Exit.inSc P body Q) a w) : RS P body Q rest a w := by
  intro b k cs
  obtain ⟨e, a₁, w₁, hq, harr⟩ := h b (.inScope body :: k) cs
  cases e with
  | normal => exact ⟨.normal, a₁, w₁, hq, Steps.trans harr (.one step_inScope)⟩
  | exit id => exact ⟨.exit id, a₁, w₁, hq, fun k' hk => harr k' (by simp [exitTo, hk])⟩
  | goto l =>
    simp only [Exit.inSc] at hq
    cases hf : Go.findLabel body l with
    | none =>
      rw [hf] at hq
      exact ⟨.goto l, a₁, w₁, hq, fun k' hk => harr k' (by simp [gotoIn, hf, hk])⟩
    | some r =>
      rw [hf] at hq
      obtain ⟨e₂, a₂, w₂, hq₂, harr₂⟩ := hq b k cs
      exact ⟨e₂, a₂, w₂, hq₂, .of_steps (harr _ (by simp [gotoIn, hf])) harr₂⟩
  | ret => exact ⟨_, a₁, w₁, hq, harr⟩
  | panic ch => exact ⟨_, a₁, w₁, hq, harr⟩
  | outgrown => exact ⟨_, a₁, w₁, hq, harr⟩
end

def toExit : Ex → Exit
  | .normal => .normal
  | .exit i => .exit i
  | .goto l => .goto l
  | .ret => .ret

section
variable {P : Program} {CD : Draws} {κ : List Tmp} {nt : Nat} {g0 : G} {w0 : World} {σ0 : Store} {T : Nat → Option Entry}

def Post (g0 : G) (w0 : World) (σ0 : Store) (κ : List Tmp) (nt : Nat) (e : Ex) (s' : St) : Exit → Act → World → Prop := fun x a w => x = toExit e ∧ ∃ g, At' g0 w0 σ0 κ nt g w s' a

theorem code_all (hD : DrawOk P CD) (hcl : Clean g0 σ0.length) : ∀ (n : Nat), (∀ m, m < n → Sound P (callW T (execN T m))) →
    (∀ (c : Go.Code) (ac : Code) (s : St) (e : Ex) (s' : St), chkCode P CD κ nt c ac = true → execN T n ac s = some (e, s') → ∀ g w a, σ0.length ≤ s.base → At' g0 w0 σ0 κ nt g w s a → c.wp P (Post g0 w0 σ0 κ nt e s') a w) ∧
    (∀ (gb gc : Go.Code) (ab ac : Code) (s : St) (e : Ex) (s' : St), chkCode P CD κ nt gb ab = true → chkCode P CD κ nt gc ac = true → execN T n (.sc ab ac) s = some (e, s') → ∀ g w a, σ0.length ≤ s.base → At' g0 w0 σ0 κ nt g w s a → RS P gb (Post g0 w0 σ0 κ nt e s') gc a w) ∧
    (∀ (gb : Go.Code) (live : List Bool) (objs : Nat) (ab : Code) (s : St) (e : Ex) (s' : St), live.length = κ.length → chkCode P CD κ nt gb ab = true → execN T n (.loop live objs ab) s = some (e, s') → ∀ g w a, σ0.length ≤ s.base → At' g0 w0 σ0 κ nt g w s a → RL P gb (Post g0 w0 σ0 κ nt e s') a w)
  | 0, _ => ⟨fun _ _ _ _ _ _ h => by simp [execN] at h, fun _ _ _ _ _ _ _ _ _ h => by simp [execN] at h, fun _ _ _ _ _ _ _ _ _ h => by simp [execN] at h⟩
  | n + 1, hS => by
    obtain ⟨ih1, ih2, ih3⟩ := code_all hD hcl n fun m hm => hS m (by omega)
    have hSn := hS n (by omega)
    refine ⟨fun c ac s e s' hc h g w a hb A => ?_, fun gb gc ab ac s e s' hcb hcc h g w a hb A => ?_, fun gb live objs ab s e s' hl hc h g w a hb A => ?_⟩
    · cases ac <;> simp only [execN] at h
      case skip =>
        injection h with h
        injection h with h1 h2
        subst h1 h2
        cases c <;> simp only [chkCode, Bool.false_eq_true] at hc
        exact wp_skip ⟨rfl, g, A⟩
      case label l =>
        injection h with h
        injection h with h1 h2
        subst h1 h2
        cases c <;> simp only [chkCode, Bool.false_eq_true] at hc
        exact wp_label ⟨rfl, g, A⟩
      case ret live =>
        injection h with h
        injection h with h1 h2
        subst h1 h2
        cases c <;> simp only [chkCode, Bool.false_eq_true, beq_iff_eq] at hc
        exact wp_ret ⟨rfl, g, A.ext, A.rel, A.fr.clr hc⟩
      case exit id live objs =>
        rw [Option.map_eq_some_iff] at h
        obtain ⟨s1, h1, h⟩ := h
        injection h with h2 h3
        subst h2 h3
        cases c <;> simp only [chkCode, Bool.false_eq_true, Bool.and_eq_true, beq_iff_eq] at hc
        obtain ⟨rfl, hl⟩ := hc
        obtain ⟨g', A'⟩ := at_clear hcl hb hl h1 A
        exact wp_exit ⟨rfl, g', A'⟩
      case goto l live objs =>
        rw [Option.map_eq_some_iff] at h
        obtain ⟨s1, h1, h⟩ := h
        injection h with h2 h3
        subst h2 h3
        cases c <;> simp only [chkCode, Bool.false_eq_true, Bool.and_eq_true, beq_iff_eq] at hc
        obtain ⟨rfl, hl⟩ := hc
        obtain ⟨g', A'⟩ := at_clear hcl hb hl h1 A
        exact wp_goto ⟨rfl, g', A'⟩
      case reg xs =>
        rw [Option.map_eq_some_iff] at h
        obtain ⟨r1, h1, h⟩ := h
        injection h with h2 h3
        subst h2 h3
        have hend : ∀ g' w' a' loc', Ext g w s.st g' w' r1.st → Rel g' w' r1.st → Fr κ loc' nt g' w' r1 a' → Post g0 w0 σ0 κ nt .normal ⟨r1.env, r1.st, s.base, s.lim⟩ .normal a' w' := fun g' w' a' loc' H R1 F1 =>
          ⟨rfl, g', A.ext.trans H, R1, Fr.bare (rs := r1.rs) (b := r1.base) (l := r1.lim) F1⟩
        cases c <;> simp only [chkCode, Bool.false_eq_true] at hc
        rename_i id ops draw
        cases draw
        · simp only [Bool.false_eq_true, if_false] at hc
          refine wp_region ?_
          rw [List.range_eq_range']
          have := ops_sound (Q := Post g0 w0 σ0 κ nt .normal ⟨r1.env, r1.st, s.base, s.lim⟩) hSn ops.toList xs 0 (loc := []) (fun j => by simp) hc h1 A.rel A.fr hend
          simpa using this
        · simp only [if_true] at hc
          exact hD.a _ hSn κ nt id ops xs hc _ r1 rfl h1 g w a _ A.rel A.fr hend
      case regd ps xs =>
        rw [Option.map_eq_some_iff] at h
        obtain ⟨r1, h1, h⟩ := h
        injection h with h2 h3
        subst h2 h3
        have hend : ∀ g' w' a' loc', Ext g w s.st g' w' r1.st → Rel g' w' r1.st → Fr κ loc' nt g' w' r1 a' → Post g0 w0 σ0 κ nt .normal ⟨r1.env, r1.st, s.base, s.lim⟩ .normal a' w' := fun g' w' a' loc' H R1 F1 =>
          ⟨rfl, g', A.ext.trans H, R1, Fr.bare (rs := r1.rs) (b := r1.base) (l := r1.lim) F1⟩
        cases c <;> simp only [chkCode, Bool.false_eq_true, Bool.and_eq_true] at hc
        rename_i id ops draw
        obtain ⟨rfl, hc⟩ := hc
        exact hD.b _ hSn κ nt id ops ps xs hc _ r1 rfl h1 g w a _ A.rel A.fr hend
      case spec sp =>
        rw [Option.map_eq_some_iff] at h
        obtain ⟨s1, h1, h⟩ := h
        injection h with h2 h3
        subst h2 h3
        have hc' : CD.c κ nt c sp = true := by simpa only [chkCode] using hc
        exact hD.c κ nt c sp hc' s s1 h1 g w a _ A.rel A.fr fun g' w' a' H R1 F1 => ⟨rfl, g', A.ext.trans H, R1, F1⟩
      case seq a1 b1 =>
        rw [Option.bind_eq_some_iff] at h
        obtain ⟨⟨e1, s1⟩, h1, h2⟩ := h
        cases c <;> simp only [chkCode, Bool.false_eq_true, Bool.and_eq_true] at hc
        have hbase := exec_base T n _ _ _ _ h1
        refine wp_seq (wp_mono (ih1 _ _ _ _ _ hc.1 h1 g w a hb A) fun x a' w' hx => ?_)
        obtain ⟨rfl, g', A'⟩ := hx
        cases e1 <;> simp only [seqK] at h2 <;> simp only [toExit, Exit.then]
        case normal => exact ih1 _ _ _ _ _ hc.2 h2 g' w' a' (by rw [hbase.1]; exact hb) A'
        all_goals
          injection h2 with h2
          injection h2 with h2 h3
          subst h2 h3
          exact ⟨rfl, g', A'⟩
      case cond x a1 b1 =>
        unfold condK at h
        cases c <;> simp only [chkCode, Bool.false_eq_true, Bool.and_eq_true] at hc
        have hv := A.fr.get hc.1.1
        split at h
        · rename_i t hget
          rw [hget] at hv
          obtain ⟨ev, _⟩ := vrel_lit hv
          refine wp_cond_split ev (fun ht => ?_) (fun ht => ?_)
          · rw [if_pos ht] at h
            exact ih1 _ _ _ _ _ hc.1.2 h g w a hb A
          · rw [if_neg (by simp [ht])] at h
            exact ih1 _ _ _ _ _ hc.2 h g w a hb A
        · cases h
      case block id body =>
        rw [Option.map_eq_some_iff] at h
        obtain ⟨⟨e1, s1⟩, h1, h2⟩ := h
        cases c <;> simp only [chkCode, Bool.false_eq_true, Bool.and_eq_true, beq_iff_eq] at hc
        obtain ⟨rfl, hc⟩ := hc
        refine wp_block (wp_mono (ih1 _ _ _ _ _ hc h1 g w a hb A) fun x a' w' hx => ?_)
        obtain ⟨rfl, g', A'⟩ := hx
        cases e1 <;> simp only [blockK] at h2 <;> simp only [toExit, Exit.inBlock]
        case exit id' =>
          split at h2
          · rename_i he
            injection h2 with h2 h3
            subst h2 h3
            rw [if_pos he]
            exact ⟨rfl, g', A'⟩
          · rename_i he
            injection h2 with h2 h3
            subst h2 h3
            rw [if_neg he]
            exact ⟨rfl, g', A'⟩
        all_goals
          injection h2 with h2 h3
          subst h2 h3
          exact ⟨rfl, g', A'⟩
      case loop live objs body =>
        cases c <;> simp only [chkCode, Bool.false_eq_true, Bool.and_eq_true, beq_iff_eq] at hc
        refine wp_of_rl (rl_step ?_)
        rw [Option.bind_eq_some_iff] at h
        obtain ⟨⟨e1, s1⟩, h1, h2⟩ := h
        have hbase := exec_base T n _ _ _ _ h1
        refine wp_mono (ih1 _ _ _ _ _ hc.2 h1 g w a hb A) fun x a' w' hx => ?_
        obtain ⟨rfl, g', A'⟩ := hx
        cases e1 <;> simp only [loopK] at h2 <;> simp only [toExit, Exit.then]
        case normal =>
          rw [Option.bind_eq_some_iff] at h2
          obtain ⟨s2, h2, h3⟩ := h2
          obtain ⟨g2, A2⟩ := at_clear hcl (by rw [hbase.1]; exact hb) hc.1 h2 A'
          exact ih3 _ _ _ _ _ _ _ hc.1 hc.2 h3 g2 w' a' (by rw [(clear_base h2).1, hbase.1]; exact hb) A2
        all_goals
          injection h2 with h2
          injection h2 with h2 h3
          subst h2 h3
          exact ⟨rfl, g', A'⟩
      case scope body =>
        cases c <;> simp only [chkCode, Bool.false_eq_true] at hc
        exact wp_of_rs (ih2 _ _ _ _ _ _ _ hc hc h g w a hb A)
      case sc => cases c <;> simp [chkCode] at hc
    · simp only [execN] at h
      rw [Option.bind_eq_some_iff] at h
      obtain ⟨⟨e1, s1⟩, h1, h2⟩ := h
      have hbase := exec_base T n _ _ _ _ h1
      refine rs_step (wp_mono (ih1 _ _ _ _ _ hcc h1 g w a hb A) fun x a' w' hx => ?_)
      obtain ⟨rfl, g', A'⟩ := hx
      cases e1 <;> simp only [scK] at h2 <;> simp only [toExit, Exit.inSc]
      case goto l =>
        cases hf : findLabel ab l with
        | none =>
          rw [hf] at h2
          rw [find_none' hD hcb hf]
          injection h2 with h2
          injection h2 with h2 h3
          subst h2 h3
          exact ⟨rfl, g', A'⟩
        | some ar =>
          rw [hf] at h2
          obtain ⟨rr, q1, q2⟩ := find_some' hD hcb hf
          rw [q1]
          exact ih2 _ _ _ _ _ _ _ hcb q2 h2 g' w' a' (by rw [hbase.1]; exact hb) A'
      all_goals
        injection h2 with h2
        injection h2 with h2 h3
        subst h2 h3
        exact ⟨rfl, g', A'⟩
    · simp only [execN] at h
      refine rl_step ?_
      rw [Option.bind_eq_some_iff] at h
      obtain ⟨⟨e1, s1⟩, h1, h2⟩ := h
      have hbase := exec_base T n _ _ _ _ h1
      refine wp_mono (ih1 _ _ _ _ _ hc h1 g w a hb A) fun x a' w' hx => ?_
      obtain ⟨rfl, g', A'⟩ := hx
      cases e1 <;> simp only [loopK] at h2 <;> simp only [toExit, Exit.then]
      case normal =>
        rw [Option.bind_eq_some_iff] at h2
        obtain ⟨s2, h2, h3⟩ := h2
        obtain ⟨g2, A2⟩ := at_clear hcl (by rw [hbase.1]; exact hb) hl h2 A'
        exact ih3 _ _ _ _ _ _ _ hl hc h3 g2 w' a' (by rw [(clear_base h2).1, hbase.1]; exact hb) A2
      all_goals
        injection h2 with h2
        injection h2 with h2 h3
        subst h2 h3
        exact ⟨rfl, g', A'⟩
end
end Go.A

/- Functions: the machine's calls are sound. -/
namespace Go.A

def okRes (P : Program) (κ : List Tmp) : List ResultVar → List (Nat × Option (Option Nat)) → Bool
  | [], [] => true
  | .tmp t :: rs, (i, none) :: xs => (κ[i]? == some t) && okRes P κ rs xs
  | .cell t ty :: rs, (i, some sz) :: xs => (κ[i]? == some t) && okLd P ty sz && okRes P κ rs xs
  | _, _ => false
def noDup : List Nat → Bool
  | [] => true
  | x :: xs => !xs.contains x && noDup xs
theorem noDup_sound : ∀ {xs : List Nat}, noDup xs = true → xs.Nodup
  | [], _ => List.nodup_nil
  | x :: xs, h => by
    simp only [noDup, Bool.and_eq_true, Bool.not_eq_true'] at h
    exact List.nodup_cons.2 ⟨by simpa using h.1, noDup_sound h.2⟩

/-- Does the machine's function stand for the loaded one? -/
def chkFun (P : Program) (CD : Draws) (κ : List Tmp) (gf : Func) (fn : Fun) : Bool :=
  (match gf.body with
    | some c => chkCode P CD κ gf.ntmps c fn.body
    | none => false) &&
  noDup κ && κ.all (fun t => decide (t < gf.ntmps)) && κ.length == fn.nslots && decide (fn.np ≤ fn.nslots) && decide (fn.np ≤ gf.ntmps) && (κ.take fn.np == List.range fn.np) && okRes P κ gf.results.toList fn.results
/-- The machine's table stands for the program's functions. -/
def TabOk (P : Program) (CD : Draws) (T : Nat → Option Entry) : Prop := ∀ f,
  (∀ fn, T f = some (.fn fn) → ∃ gf κ, P.funcs[f]? = some gf ∧ (gf.name == "runtime.NumGoroutine") = false ∧ chkFun P CD κ gf fn = true) ∧
  (∀ ext, T f = some (.ext ext) → ∀ args σ v σ', ext args σ = some (v, σ') → Enters P f ∧ ∀ g w us, Rel g w σ → vrels g w σ args us → Calls P f us.toArray w fun e w' => ∃ u g', e = .returned u ∧ vrel g' w' σ' v u ∧ Rel g' w' σ' ∧ Ext g w σ g' w' σ')

section
variable {P : Program} {CD : Draws} {κ : List Tmp} {nt : Nat} {g : G} {w : World} {σ : Store} {T : Nat → Option Entry} {a : Act}

/-! ### Leaving -/
theorem run_of_exec {t : TypeId} {x : Operand} {u : Value} (h : (execOp a.eval { (default : Go.Oper) with op := .load t x }).run P w = .ok (.value u) w) : ∃ ad, a.eval x = .pointer (some ad) ∧ (loadVar t ad).run P w = .ok u w ∨ ¬ ∃ ad, a.eval x = .pointer (some ad) := by
  by_cases hx : ∃ ad, a.eval x = .pointer (some ad)
  · obtain ⟨ad, hx⟩ := hx
    refine ⟨ad, .inl ⟨hx, ?_⟩⟩
    unfold execOp at h
    simp only [hx] at h
    simp only [Instr.loadAt, Instr.sureAddr, Sem.run_bind, Sem.run_pure, Result.andThen_ok] at h
    cases hr : (loadVar t ad).run P w with
    | ok v w1 =>
      rw [hr] at h
      simp only [Result.andThen_ok] at h
      injection h with h1 h2
      injection h1 with h1
      rw [h1, h2]
    | halt x w1 =>
      rw [hr] at h
      simp [Result.andThen] at h
  · exact ⟨⟨0, 0, none⟩, .inr hx⟩

/-- One result. -/
def resRun (tmps : Array Value) : ResultVar → Sem Value
  | .tmp t => pure (tmps.getD t undef)
  | .cell ad t => do loadVar t (← asAddr (tmps.getD ad undef))
theorem results_eq (gf : Func) (tmps : Array Value) : results gf tmps = (do
    let vs ← gf.results.mapM (resRun tmps)
    pure (if h : vs.size = 1 then vs[0] else .tuple vs)) := by
  unfold results
  congr 1

theorem res_run {r : R} (R0 : Rel g w r.st) (F : Fr κ [] nt g w r a) : ∀ {rs : List ResultVar} {xs : List (Nat × Option (Option Nat))} {raw : Bool} {lim : Nat} {vs : List V}, okRes P κ rs xs = true → outs raw lim r.st r.env xs = some vs →
    ∃ us v0s, (rs.mapM (resRun a.tmps)).run P w = .ok us w ∧ vrels g w r.st v0s us ∧ v0s.length = vs.length ∧ ∀ (i : Nat) (v : V), vs[i]? = some v → ∃ v0, v0s[i]? = some v0 ∧ frzI raw lim r.st v0 = some v
  | [], [], raw, lim, vs, _, h => by
    simp only [outs, Option.some.injEq] at h
    subst h
    exact ⟨[], [], by simp, by simp only [vrels], rfl, fun i v h => by simp at h⟩
  | .tmp t :: rs, (i, none) :: xs, raw, lim, vs, hc, h => by
    simp only [okRes, Bool.and_eq_true, beq_iff_eq] at hc
    simp only [outs] at h
    obtain ⟨v, vs', h1, h2, rfl⟩ := ocons_some h
    obtain ⟨us, v0s, k1, k2, k3, k4⟩ := res_run R0 F hc.2 h2
    simp only [resAt, Option.bind_some] at h1
    refine ⟨a.tmps.getD t undef :: us, r.env.getD i vun :: v0s, by simp [List.mapM_cons, resRun, k1], by simp only [vrels]; exact ⟨_, _, rfl, F.env i t hc.1, k2⟩, by simp [k3], fun j v' hj => ?_⟩
    cases j with
    | zero => simp at hj; subst hj; exact ⟨_, by simp, h1⟩
    | succ j => simpa using k4 j v' (by simpa using hj)
  | .cell t ty :: rs, (i, some sz) :: xs, raw, lim, vs, hc, h => by
    simp only [okRes, Bool.and_eq_true, beq_iff_eq] at hc
    simp only [outs] at h
    obtain ⟨v, vs', h1, h2, rfl⟩ := ocons_some h
    obtain ⟨us, v0s, k1, k2, k3, k4⟩ := res_run R0 F hc.2 h2
    rw [Option.bind_eq_some_iff] at h1
    obtain ⟨v0, h3, h4⟩ := h1
    simp only [resAt] at h3
    have hx : vrel g w r.st (r.env.getD i vun) (a.eval (.tmp t)) := F.env i t hc.1.1
    obtain ⟨u, q1, q2⟩ := ld_sound (P := P) (o := { (default : Go.Oper) with op := .load ty (.tmp t) }) R0 rfl (okLd_sound hc.1.2) hx h3
    have hptr : ∃ ad, a.eval (.tmp t) = .pointer (some ad) := by
      unfold ald at h3
      split at h3 <;> first
        | (rename_i he; rw [he] at hx; simp only [vrel, crel] at hx; first | (obtain ⟨_, _, _, _, _, _, ad, e⟩ := hx; exact ⟨ad, e⟩) | (obtain ⟨_, _, e, _⟩ := hx; exact ⟨_, e⟩))
        | cases h3
    obtain ⟨ad, had | hno⟩ := run_of_exec q1
    · have he : a.tmps.getD t undef = .pointer (some ad) := had.1
      refine ⟨u :: us, v0 :: v0s, by simp only [List.mapM_cons, resRun, he, asAddr, Sem.run_bind, Sem.run_pure, Result.andThen_ok, had.2, k1], by simp only [vrels]; exact ⟨_, _, rfl, q2, k2⟩, by simp [k3], fun j v' hj => ?_⟩
      cases j with
      | zero => simp at hj; subst hj; exact ⟨_, by simp, h4⟩
      | succ j => simpa using k4 j v' (by simpa using hj)
    · exact absurd hptr hno
  | [], _ :: _, _, _, _, hc, _ => by simp [okRes] at hc
  | .tmp _ :: _, [], _, _, _, hc, _ => by simp [okRes] at hc
  | .cell _ _ :: _, [], _, _, _, hc, _ => by simp [okRes] at hc
  | .tmp _ :: _, (_, some _) :: _, _, _, _, hc, _ => by simp [okRes] at hc
  | .cell _ _ :: _, (_, none) :: _, _, _, _, hc, _ => by simp [okRes] at hc

theorem frzRowO_stay {lim : Nat} (hl : σ.length ≤ lim) : ∀ {cs : List C} {xs : List Fz}, frzRowO lim σ cs = some xs → frzRow cs = some xs
  | [], xs, h => by simpa only [frzRowO, frzRow] using h
  | c :: cs, xs, h => by
    simp only [frzRowO] at h
    simp only [frzRow]
    unfold ocons at h ⊢
    split at h
    · rename_i x ys h1 h2
      injection h with h
      subst h
      rw [frzRowO_stay hl h2]
      have : frzC c = some x := by
        unfold frzCo at h1
        split at h1
        · split at h1
          · rename_i hid
            rw [Option.map_eq_some_iff] at h1
            obtain ⟨_, h1, _⟩ := h1
            rw [Option.bind_eq_some_iff] at h1
            obtain ⟨_, h1, _⟩ := h1
            have := lt_of_some h1
            omega
          · cases h1
        · exact h1
      rw [this]
    · cases h
theorem frzRowO_drop (R0 : Rel g w σ) {lim : Nat} : ∀ {cs : List C} {xs : List Fz} {us : List Value}, frzRowO lim σ cs = some xs → crels g w σ cs us → crels (g.drop lim w) w (σ.take lim) (xs.map C.f) us
  | [], xs, us, h, hr => by
    simp only [frzRowO, Option.some.injEq] at h
    subst h
    simpa only [List.map_nil, crels] using hr
  | c :: cs, xs, us, h, hr => by
    simp only [frzRowO] at h
    unfold ocons at h
    split at h
    · rename_i x ys h1 h2
      injection h with h
      subst h
      simp only [crels] at hr
      obtain ⟨v, vs, rfl, k1, k2⟩ := hr
      simp only [List.map_cons, crels]
      refine ⟨v, vs, rfl, ?_, frzRowO_drop R0 h2 k2⟩
      unfold frzCo at h1
      split at h1
      · split at h1
        · rename_i id ver lo n hid
          rw [Option.map_eq_some_iff] at h1
          obtain ⟨ys, h1, rfl⟩ := h1
          simp only [crel]
          refine own_frozen R0 (fun b o h => .inl h) (fun o => ?_) h1 (by simpa only [vrel] using k1)
          by_cases hx : ∃ sz es, σ[id]? = some (.cells ver sz es) ∧ es ≠ []
          · obtain ⟨sz, es, q1, q2⟩ := hx
            obtain ⟨k0, _, arr, t, k3, _⟩ := R0.ob id _ q1 q2
            exact .inl (.inr ⟨(Array.getElem?_eq_some_iff.1 k3).1, id, hid, k0⟩)
          · exact .inr hx
        · cases h1
      · simp only [crel]
        exact rep_mono drop_keeps _ v (frzC_sound h1 k1)
    · cases h

theorem frz_stay {lim : Nat} {raw : Bool} {v0 v : V} {u : Value} (hl : σ.length ≤ lim) (h : frzI raw lim σ v0 = some v) (hv : vrel g w σ v0 u) : vrel g w σ v u := by
  unfold frzI at h
  split at h
  · injection h with h; subst h; exact hv
  · unfold frzO at h
    split at h
    · split at h
      · rename_i id ver lo n hid
        rw [Option.map_eq_some_iff] at h
        obtain ⟨xs, h, _⟩ := h
        rw [Option.bind_eq_some_iff] at h
        obtain ⟨ob, h, _⟩ := h
        have := lt_of_some h
        omega
      · cases h
    · injection h with h
      subst h
      simp only [vrel, crel] at hv
      simp only [vsl, vrel, crel]
      exact hv.1
    · rw [Option.map_eq_some_iff] at h
      obtain ⟨xs, h, rfl⟩ := h
      simp only [vrel] at hv
      obtain ⟨us, h1, h2⟩ := hv
      simp only [vagg, vrel]
      exact ⟨us, h1, frzRow_rel (Keeps.refl _ _) rfl (frzRowO_stay hl h) h2⟩
    · injection h with h; subst h; exact hv
theorem frz_drop (R0 : Rel g w σ) {lim : Nat} {raw : Bool} {v0 v : V} {u : Value} (h : frzI raw lim σ v0 = some v) (hv : vrel g w σ v0 u) (hlt : v.lt lim = true) : vrel (g.drop lim w) w (σ.take lim) v u := by
  unfold frzI at h
  split at h
  · injection h with h; subst h; exact vrel_drop _ _ hv hlt
  · unfold frzO at h
    split at h
    · split at h
      · rename_i id ver lo n hid
        rw [Option.map_eq_some_iff] at h
        obtain ⟨xs, h, rfl⟩ := h
        simp only [vsl, vrel, crel]
        refine own_frozen R0 (fun b o h => .inl h) (fun o => ?_) h hv
        by_cases hx : ∃ sz es, σ[id]? = some (.cells ver sz es) ∧ es ≠ []
        · obtain ⟨sz, es, k1, k2⟩ := hx
          obtain ⟨k0, _, arr, t, k3, _⟩ := R0.ob id _ k1 k2
          exact .inl (.inr ⟨(Array.getElem?_eq_some_iff.1 k3).1, id, hid, k0⟩)
        · exact .inr hx
      · cases h
    · injection h with h
      subst h
      simp only [vrel, crel] at hv
      simp only [vsl, vrel, crel]
      exact rep_mono drop_keeps _ u hv.1
    · rw [Option.map_eq_some_iff] at h
      obtain ⟨xs, h, rfl⟩ := h
      simp only [vrel] at hv
      obtain ⟨us, h1, h2⟩ := hv
      simp only [vagg, vrel]
      exact ⟨us, h1, frzRowO_drop R0 h h2⟩
    · injection h with h; subst h; exact vrel_drop _ _ hv hlt

theorem vrels_length : ∀ {vs : List V} {us : List Value}, vrels g w σ vs us → us.length = vs.length
  | [], us, h => by simp only [vrels] at h; simp [h]
  | c :: cs, us, h => by
    simp only [vrels] at h
    obtain ⟨v, vs, rfl, _, h3⟩ := h
    simp [vrels_length h3]
theorem vrels_of : ∀ {vs : List V} {us : List Value}, us.length = vs.length → (∀ (j : Nat) (c : V) (u : Value), vs[j]? = some c → us[j]? = some u → vrel g w σ c u) → vrels g w σ vs us
  | [], us, hl, _ => by simp only [vrels]; exact List.eq_nil_of_length_eq_zero (by simpa using hl)
  | c :: cs, [], hl, _ => by simp at hl
  | c :: cs, v :: vs, hl, h => by
    simp only [vrels]
    exact ⟨v, vs, rfl, h 0 c v (by simp) (by simp), vrels_of (by simpa using hl) fun j c u hc hu => h (j + 1) c u (by simpa using hc) (by simpa using hu)⟩

theorem lts_get {n : Nat} : ∀ {vs : List V} {i : Nat} {v : V}, V.lts n vs = true → vs[i]? = some v → v.lt n = true
  | [], _, _, _, h => by simp at h
  | x :: xs, 0, v, hl, h => by
    simp only [V.lts, Bool.and_eq_true] at hl
    simp at h
    subst h
    exact hl.1
  | x :: xs, i + 1, v, hl, h => by
    simp only [V.lts, Bool.and_eq_true] at hl
    exact lts_get hl.2 (by simpa using h)

theorem leave_sound {g0 : G} {w0 : World} {σ0 : Store} {fn : Fun} {gf : Func} {e : Ex} {s : St} {v : V} {σ' : Store} (hc : Clean g0 σ0.length) (hlim : σ0.length ≤ s.lim) (hr : okRes P κ gf.results.toList fn.results = true) (h : leave fn.raw fn.results (e, s) = some (v, σ')) (A : At' g0 w0 σ0 κ nt g w s a) :
    (e = .normal ∨ e = .ret) ∧ a.defers = [] ∧ ∃ u, (results gf a.tmps).run P w = .ok u w ∧ ∃ g', vrel g' w σ' v u ∧ Rel g' w σ' ∧ Ext g0 w0 σ0 g' w σ' := by
  have h' : (e = .normal ∨ e = .ret) ∧ (outs fn.raw s.lim s.st s.env fn.results).bind (leaveK s.lim s.st) = some (v, σ') := by
    cases e <;> simp only [leave] at h
    case normal => exact ⟨.inl rfl, h⟩
    case ret => exact ⟨.inr rfl, h⟩
    all_goals cases h
  refine ⟨h'.1, A.fr.df, ?_⟩
  have h := h'.2
  rw [Option.bind_eq_some_iff] at h
  obtain ⟨vs, h1, h2⟩ := h
  unfold leaveK at h2
  rw [Option.map_eq_some_iff] at h2
  obtain ⟨σ2, h2, h3⟩ := h2
  injection h3 with h3 h4
  subst h3 h4
  obtain ⟨us, v0s, k1, k2, k3, k4⟩ := res_run (P := P) A.rel A.fr hr h1
  have hul := vrels_length k2
  have hrun : (results gf a.tmps).run P w = .ok (if us.length = 1 then us.getD 0 undef else .tuple us.toArray) w := by
    rw [results_eq, Array.mapM_eq_mapM_toList]
    simp only [Sem.run_bind, Sem.run_map, k1]
    simp only [Result.andThen_ok, Sem.run_pure]
    congr 1
    by_cases h : us.length = 1
    · match us, h with
      | [x], _ => simp
    · simp [h]
  have hval : ∀ {g' : G}, vrels g' w σ2 vs us → vrel g' w σ2 (resV vs) (if us.length = 1 then us.getD 0 undef else .tuple us.toArray) := fun {g'} hv => by
    have hl := vrels_length hv
    unfold resV
    split
    · simp only [vrels] at hv
      obtain ⟨x, xs, rfl, q1, rfl⟩ := hv
      simpa using q1
    · rename_i hne
      have : us.length ≠ 1 := fun h => by
        rw [hl] at h
        match vs, h with
        | [x], _ => exact hne x rfl
      rw [if_neg this]
      simp only [vrel]
      exact ⟨_, rfl, by simpa using hv⟩
  refine ⟨_, hrun, ?_⟩
  unfold dropSt at h2
  split at h2
  · rename_i hle
    injection h2 with h2
    subst h2
    refine ⟨g, hval (vrels_of (by omega) fun j c u hc hu => ?_), A.rel, A.ext⟩
    obtain ⟨v0, q1, q2⟩ := k4 j c hc
    obtain ⟨u', q3, q4⟩ := vrels_get k2 q1
    rw [hu] at q3
    injection q3 with q3
    subst q3
    exact frz_stay hle q2 q4
  · split at h2
    · rename_i hlt
      injection h2 with h2
      subst h2
      simp only [Bool.and_eq_true] at hlt
      refine ⟨g.drop s.lim w, hval (vrels_of (by omega) fun j c u hc hu => ?_), rel_drop A.rel hlt.2, ext_drop A.ext hc hlim⟩
      obtain ⟨v0, q1, q2⟩ := k4 j c hc
      obtain ⟨u', q3, q4⟩ := vrels_get k2 q1
      rw [hu] at q3
      injection q3 with q3
      subst q3
      exact frz_drop A.rel q2 q4 (lts_get hlt.1 hc)
    · cases h2

/-! ### Entering -/
theorem enter_sound {gf : Func} {fn : Fun} {args : List V} {us : List Value} (R0 : Rel g w σ) (hv : vrels g w σ args us) (hnd : noDup κ = true) (hall : κ.all (fun t => decide (t < gf.ntmps)) = true) (hlen : κ.length = fn.nslots) (h1 : fn.np ≤ fn.nslots) (h2 : fn.np ≤ gf.ntmps) (hk : κ.take fn.np = List.range fn.np) (hnp : args.length = fn.np) :
    At' (g.clean σ.length) w σ κ gf.ntmps (g.clean σ.length) w (enter fn args σ) { tmps := us.toArray ++ Array.replicate (gf.ntmps - us.toArray.size) undef, defers := [] } := by
  have hul := vrels_length hv
  refine ⟨Ext.refl _ _ _, rel_clean R0, ⟨by simp; omega, by simp [enter]; omega, fun i t ht => ?_, fun d t h => by simp at h, fun d t h => by simp at h, noDup_sound hnd, fun t ht => by simpa using List.all_eq_true.1 hall t ht, rfl⟩⟩
  by_cases hi : i < args.length
  · have : t = i := by
      have e1 : (κ.take fn.np)[i]? = some t := by rw [take_get (by omega)]; exact ht
      rw [hk, List.getElem?_range (by omega)] at e1
      injection e1 with e1
      exact e1.symm
    subst this
    have e2 : (args ++ List.replicate (fn.nslots - args.length) vun).getD t vun = args[t] := by
      rw [List.getD_eq_getElem?_getD, List.getElem?_append_left hi, List.getElem?_eq_getElem hi]
      rfl
    show vrel (g.clean σ.length) w σ ((args ++ List.replicate (fn.nslots - args.length) vun).getD t vun) _
    rw [e2]
    obtain ⟨u, q1, q2⟩ := vrels_get hv (List.getElem?_eq_getElem hi)
    have e3 : (us.toArray ++ Array.replicate (gf.ntmps - us.toArray.size) undef).getD t undef = u := by
      rw [Array.getD_eq_getD_getElem?, Array.getElem?_append_left (by simp; omega)]
      simp [q1]
    rw [e3]
    exact vrel_same (g := g) (g' := g.clean σ.length) rfl rfl rfl _ _ q2
  · have e2 : (args ++ List.replicate (fn.nslots - args.length) vun).getD i vun = vun := by
      rw [List.getD_eq_getElem?_getD, List.getElem?_append_right (by omega), List.getElem?_replicate]
      split <;> rfl
    show vrel (g.clean σ.length) w σ ((args ++ List.replicate (fn.nslots - args.length) vun).getD i vun) _
    rw [e2]
    simp only [vun, vrel, crel]

theorem sound_n (hD : DrawOk P CD) (hT : TabOk P CD T) (n : Nat) : Sound P (callW T (execN T n)) := by
  induction n using Nat.strongRecOn with
  | _ n ih =>
    intro f args σ v σ' h
    unfold callW at h
    split at h
    · rename_i fn hfn
      split at h
      · rename_i hnp
        obtain ⟨gf, κ, hgf, hname, hchk⟩ := (hT f).1 fn hfn
        unfold chkFun at hchk
        simp only [Bool.and_eq_true, beq_iff_eq, decide_eq_true_eq] at hchk
        obtain ⟨⟨⟨⟨⟨⟨⟨h1, h2⟩, h3⟩, h4⟩, h5⟩, h6⟩, h7⟩, h8⟩ := hchk
        split at h1
        · rename_i c hbody
          refine ⟨⟨gf, c, hgf, hname, hbody⟩, fun g w us R0 hv => ?_⟩
          rw [Option.bind_eq_some_iff] at h
          obtain ⟨⟨e, s⟩, hex, hleave⟩ := h
          have hA := enter_sound (gf := gf) R0 hv h2 h3 h4 h5 h6 h7 hnp
          have hbase := exec_base T n _ _ _ _ hex
          have hcode := (code_all (T := T) (g0 := g.clean σ.length) (w0 := w) (σ0 := σ) (κ := κ) (nt := gf.ntmps) hD (clean_clean g σ.length) n ih).1 c fn.body _ e s h1 hex _ _ _ (Nat.le_refl _) hA
          refine calls_of_wp hgf hbody (wp_mono hcode fun x a' w' hx => ?_)
          obtain ⟨rfl, g', A'⟩ := hx
          obtain ⟨q1, q2, u, q3, g2, q4, q5, q6⟩ := leave_sound (gf := gf) (clean_clean g σ.length) (by rw [hbase.2]; exact Nat.le_add_right _ _) h8 hleave A'
          have hend : a'.defers = [] ∧ ∃ v1, (results gf a'.tmps).run P w' = .ok v1 w' ∧ ∃ u g', (Ending.returned v1) = .returned u ∧ vrel g' w' σ' v u ∧ Rel g' w' σ' ∧ Ext g w σ g' w' σ' :=
            ⟨q2, u, q3, u, G.under g w g2, rfl, vrel_same (g := g2) (g' := G.under g w g2) rfl rfl rfl _ _ q4, rel_under q6 q5, ext_under q6⟩
          rcases q1 with rfl | rfl
          · exact hend
          · exact hend
        · cases h1
      · cases h
    · rename_i ext hext
      exact (hT f).2 ext hext args σ v σ' h
    · cases h

/-- THE MACHINE IS SOUND. -/
theorem sound (hD : DrawOk P CD) (hT : TabOk P CD T) : Sound P (call T) := fun f args σ v σ' h => by
  obtain ⟨n, hn⟩ := call_le h
  exact sound_n hD hT n f args σ v σ' hn
end
end Go.A

/- Regions with a draw: any order comes to the same. -/
namespace Go.A

/-- The operations that an operation waits for. -/
def edges (o : Go.Oper) : List Nat := (o.after.toList.filter fun e => Region.binds .any e).map (·.on)
def edgesAt (gops : Array Go.Oper) (j : Nat) : List Nat := match gops[j]? with
  | some o => edges o
  | none => []
/-- All that must have gone before. -/
inductive Reach (gops : Array Go.Oper) : Nat → Nat → Prop where
  | edge {j i : Nat} : i ∈ edgesAt gops j → Reach gops j i
  | more {j k i : Nat} : k ∈ edgesAt gops j → Reach gops k i → Reach gops j i
def lo (gops : Array Go.Oper) (xs : List Oper) (i : Nat) : Option Tmp := match gops[i]?, xs[i]? with
  | some o, some x => locOf o.dst x.dst
  | _, _ => none
def locFull (gops : Array Go.Oper) (xs : List Oper) (j : Nat) : List (Option Tmp) := (List.range j).reverse.map (lo gops xs)
def loAft (gops : Array Go.Oper) (xs : List Oper) (j i : Nat) : Option Tmp := if (edgesAt gops j).contains i then lo gops xs i else none
def locAft (gops : Array Go.Oper) (xs : List Oper) (j : Nat) : List (Option Tmp) := (List.range j).reverse.map (loAft gops xs j)
def notSlot : D → Bool
  | .slot _ => false
  | _ => true

theorem rev_get {α : Type} (f : Nat → α) {j d : Nat} (h : d < j) : ((List.range j).reverse.map f)[d]? = some (f (j - 1 - d)) := by
  rw [List.getElem?_map, List.getElem?_reverse (by simpa using h), List.length_range, List.getElem?_range (by omega)]
  rfl

section
variable {P : Program} {κ : List Tmp} {nt : Nat} {gops : Array Go.Oper} {xs : List Oper}

/-- The machine's states, in the order of the text. -/
theorem steps_seq {Cf : Caller} : ∀ (xs : List Oper) (r r1 : R), steps Cf xs r = some r1 → ∃ rr : Nat → R, rr 0 = r ∧ rr xs.length = r1 ∧ ∀ i x, xs[i]? = some x → step Cf (rr i) x = some (rr (i + 1))
  | [], r, r1, h => by
    simp only [steps, Option.some.injEq] at h
    exact ⟨fun _ => r, rfl, h, fun i x h => by simp at h⟩
  | x :: xs, r, r1, h => by
    simp only [steps, Option.bind_eq_some_iff] at h
    obtain ⟨r2, h1, h2⟩ := h
    obtain ⟨rr, k1, k2, k3⟩ := steps_seq xs r2 r1 h2
    refine ⟨fun i => match i with
      | 0 => r
      | i + 1 => rr i, rfl, k2, fun i y hy => ?_⟩
    cases i with
    | zero =>
      simp at hy
      subst hy
      simp only [k1]
      exact h1
    | succ i => exact k3 i y (by simpa using hy)

/-- What holds while the operations ahead of the tail are under way: D: what has been done. -/
structure Mid (gops : Array Go.Oper) (xs : List Oper) (κ : List Tmp) (nt p : Nat) (envD : (Nat → Bool) → List V) (v : Nat → V) (σD : (Nat → Bool) → Store) (g0 : G) (w0 : World) (σ0 : Store) (D : Nat → Bool) (g : G) (w : World) (a : Act) : Prop where
  ext : Ext g0 w0 σ0 g w (σD D)
  rel : Rel g w (σD D)
  size : a.tmps.size = nt
  df : a.defers = []
  slot : ∀ (i : Nat) (t : Tmp), κ[i]? = some t → vrel g w (σD D) ((envD D).getD i vun) (a.tmps.getD t undef)
  done : ∀ i t, i < p → D i = true → lo gops xs i = some t → vrel g w (σD D) (v i) (a.tmps.getD t undef)

def upd' (D : Nat → Bool) (j : Nat) : Nat → Bool := fun i => if i = j then true else D i
def Dof (listed : Array Bool) : Nat → Bool := fun i => listed.getD i false

/-- What the checks ahead say of a region, the tail beginning at p. -/
structure Plan (P : Program) (κ : List Tmp) (nt : Nat) (gops : Array Go.Oper) (xs : List Oper) (p : Nat) : Prop where
  len : xs.length = gops.size
  p_le : p ≤ gops.size
  back : ∀ j o, gops[j]? = some o → ∀ i ∈ edges o, i < j
  pre : ∀ j o x, j < p → gops[j]? = some o → xs[j]? = some x → okD κ nt o.dst x.dst = true
  apart : ∀ i j t, i < p → j < p → lo gops xs i = some t → lo gops xs j = some t → i = j
  tail : ∀ j o x, p ≤ j → gops[j]? = some o → xs[j]? = some x → okD κ nt o.dst x.dst = true ∧ okGuard κ (locFull gops xs j) gops o.guard x.guard = true ∧ chkOp P κ (locFull gops xs j) o x.dst x.op = true ∧ ∀ i, i < j → Reach gops j i

variable {p b l : Nat} {envD : (Nat → Bool) → List V} {v : Nat → V} {σD : (Nat → Bool) → Store} {g0 : G} {w0 : World} {σ0 : Store} {rr : Nat → R}

/-- Nothing has been done ahead of what it waits for. -/
def Closed (gops : Array Go.Oper) (D : Nat → Bool) : Prop := ∀ j, D j = true → ∀ i ∈ edgesAt gops j, D i = true
theorem reach_done {D : Nat → Bool} (hD : Closed gops D) {j i : Nat} (h : Reach gops j i) : (∀ i ∈ edgesAt gops j, D i = true) → D i = true := by
  induction h with
  | edge h => exact fun hj => hj _ h
  | more h _ ih => exact fun hj => ih fun i hi => hD _ (hj _ h) i hi

theorem ready_spec {listed : Array Bool} (hs : listed.size = gops.size) {j : Nat} : j ∈ Region.ready .any gops listed ↔ (∃ o, gops[j]? = some o) ∧ Dof listed j = false ∧ ∀ i ∈ edgesAt gops j, Dof listed i = true := by
  rw [mem_ready]
  constructor
  · rintro ⟨h0, o, ho, h⟩
    have hlt : j < gops.size := (Array.getElem?_eq_some_iff.1 ho).1
    refine ⟨⟨o, ho⟩, ?_, fun i hi => ?_⟩
    · unfold Dof
      rw [Array.getD_eq_getD_getElem?, Array.getElem?_eq_getElem (by omega)] at h0 ⊢
      exact h0
    · unfold edgesAt at hi
      rw [ho] at hi
      unfold edges at hi
      rw [List.mem_map] at hi
      obtain ⟨e, he, rfl⟩ := hi
      rw [List.mem_filter] at he
      exact h e (by simpa using he.1) he.2
  · rintro ⟨⟨o, ho⟩, h0, h⟩
    have hlt : j < gops.size := (Array.getElem?_eq_some_iff.1 ho).1
    refine ⟨?_, o, ho, fun e he hb => h e.on ?_⟩
    · unfold Dof at h0
      rw [Array.getD_eq_getD_getElem?, Array.getElem?_eq_getElem (by omega)] at h0 ⊢
      exact h0
    · unfold edgesAt
      rw [ho]
      unfold edges
      rw [List.mem_map]
      exact ⟨e, by rw [List.mem_filter]; exact ⟨by simpa using he, hb⟩, rfl⟩
theorem Dof_set {listed : Array Bool} (hs : listed.size = gops.size) {j : Nat} (hj : j < gops.size) : Dof (listed.setIfInBounds j true) = upd' (Dof listed) j := by
  funext i
  show (listed.setIfInBounds j true).getD i false = if i = j then true else listed.getD i false
  rw [Array.getD_eq_getD_getElem?, Array.getD_eq_getD_getElem?, Array.getElem?_setIfInBounds]
  by_cases h : j = i
  · subst h
    simp [hs, hj]
  · rw [if_neg h, if_neg (fun e => h e.symm)]
theorem closed_upd {D : Nat → Bool} (hD : Closed gops D) {j : Nat} (hj : ∀ i ∈ edgesAt gops j, D i = true) : Closed gops (upd' D j) := fun k hk i hi => by
  unfold upd' at hk ⊢
  split
  · rfl
  · split at hk
    · rename_i e; subst e; exact hj i hi
    · exact hD k hk i hi

/-- Something that can be done next. -/
theorem exists_ready {listed : Array Bool} (hs : listed.size = gops.size) (hb : ∀ j o, gops[j]? = some o → ∀ i ∈ edges o, i < j) : ∀ (n : Nat) , n < gops.size → Dof listed n = false → Region.ready .any gops listed ≠ [] := by
  intro n
  induction n using Nat.strongRecOn with
  | _ n ih =>
    intro hn hd hr
    by_cases h : ∀ i ∈ edgesAt gops n, Dof listed i = true
    · have : n ∈ Region.ready .any gops listed := (ready_spec hs).2 ⟨⟨gops[n], Array.getElem?_eq_getElem hn⟩, hd, h⟩
      rw [hr] at this
      simp at this
    · simp only [Classical.not_forall] at h
      obtain ⟨i, hi, hne⟩ := h
      have hlt : i < n := by
        unfold edgesAt at hi
        rw [Array.getElem?_eq_getElem hn] at hi
        exact hb n _ (Array.getElem?_eq_getElem hn) i hi
      exact ih i hlt (by omega) (by simpa using hne) hr

/-- The frame of one operation ahead of the tail. -/
theorem mid_frame (pl : Plan P κ nt gops xs p) (hlen : ∀ D, (envD D).length = κ.length) (hnd : κ.Nodup) (hbd : ∀ t ∈ κ, t < nt) {D : Nat → Bool} {g : G} {w : World} {a : Act} (M : Mid gops xs κ nt p envD v σD g0 w0 σ0 D g w a) {j : Nat} (hj : j ≤ p) {f : Nat → Option Tmp} (hf : ∀ i t, i < j → f i = some t → D i = true ∧ lo gops xs i = some t) :
    Fr κ ((List.range j).reverse.map f) nt g w ⟨(List.range j).reverse.map v, envD D, σD D, b, l⟩ a := by
  refine ⟨M.size, hlen D, fun i t ht => M.slot i t ht, fun d t hd _ => ?_, fun d t hd => ?_, hnd, hbd, M.df⟩
  · have hdj : d < j := by have := lt_of_some hd; simpa using this
    rw [rev_get f hdj] at hd
    injection hd with hd
    obtain ⟨h1, h2⟩ := hf _ t (by omega) hd
    simp only [List.getD_eq_getElem?_getD, rev_get v hdj, Option.getD_some]
    exact M.done _ t (by omega) h1 h2
  · have hdj : d < j := by have := lt_of_some hd; simpa using this
    rw [rev_get f hdj] at hd
    injection hd with hd
    obtain ⟨_, h2⟩ := hf _ t (by omega) hd
    unfold lo at h2
    split at h2
    · rename_i o x ho hx
      have hp := pl.pre _ o x (by omega) ho hx
      unfold locOf at h2
      split at h2
      · rename_i t' heq1 heq2
        injection h2 with h2
        subst h2
        have := hp
        rw [heq1, heq2] at this
        simp only [okD, Bool.and_eq_true, Bool.not_eq_true'] at this
        simpa using this.1
      · cases h2
    · cases h2

/-! ### The rounds -/
def left (D : Nat → Bool) (l : List Nat) : Nat := (l.filter fun i => !D i).length
theorem left_le (D : Nat → Bool) (j : Nat) : ∀ l : List Nat, left (upd' D j) l ≤ left D l
  | [] => Nat.le_refl _
  | x :: l => by
    have ih := left_le D j l
    unfold left at ih ⊢
    simp only [List.filter_cons]
    by_cases hx : x = j
    · subst hx
      cases D x <;> simp [upd'] at ih ⊢ <;> omega
    · have : upd' D j x = D x := by simp [upd', hx]
      rw [this]
      cases D x <;> simp at ih ⊢ <;> omega
theorem left_lt (D : Nat → Bool) (j : Nat) (hD : D j = false) : ∀ l : List Nat, j ∈ l → left (upd' D j) l < left D l
  | [], h => by simp at h
  | x :: l, h => by
    have hle := left_le D j l
    by_cases hx : x = j
    · subst hx
      unfold left at hle ⊢
      simp only [List.filter_cons, hD]
      simp [upd'] at hle ⊢
      omega
    · have ih := left_lt D j hD l (by simpa [Ne.symm hx] using h)
      unfold left at ih ⊢
      simp only [List.filter_cons]
      have : upd' D j x = D x := by simp [upd', hx]
      rw [this]
      cases D x <;> simp at ih ⊢ <;> omega
theorem left_zero {D : Nat → Bool} {n : Nat} (h : left D (List.range n) = 0) : ∀ i, i < n → D i = true := fun i hi => by
  have := List.eq_nil_of_length_eq_zero h
  rw [List.filter_eq_nil_iff] at this
  simpa using this i (by simpa using hi)

variable {Q : Exit → Act → World → Prop} {Cf : Caller}

theorem locFull_succ {m : Nat} {o : Go.Oper} {x : Oper} (ho : gops[m]? = some o) (hx : xs[m]? = some x) : locFull gops xs (m + 1) = locOf o.dst x.dst :: locFull gops xs m := by
  unfold locFull
  rw [List.range_succ, List.reverse_append]
  simp [lo, ho, hx]

theorem tail_run (S : Sound P Cf) (pl : Plan P κ nt gops xs p) (hrr : ∀ i x, xs[i]? = some x → step Cf (rr i) x = some (rr (i + 1))) (hend : ∀ g w a loc, Ext g0 w0 σ0 g w (rr gops.size).st → Rel g w (rr gops.size).st → Fr κ loc nt g w (rr gops.size) a → Q .normal a w) :
    ∀ (fuel m : Nat) (listed : Array Bool) (g : G) (w : World) (a : Act), listed.size = gops.size → p ≤ m → m ≤ gops.size → (∀ i, Dof listed i = decide (i < m)) → gops.size ≤ m + fuel → Ext g0 w0 σ0 g w (rr m).st → Rel g w (rr m).st → Fr κ (locFull gops xs m) nt g w (rr m) a → wpAny P .any gops Q fuel listed a w
  | fuel, m, listed, g, w, a, hs, hpm, hm, hD, hf, H, R0, F => by
    have hready : ∀ j, j ∈ Region.ready .any gops listed → j = m ∧ j < gops.size := fun j hj => by
      obtain ⟨⟨o, ho⟩, h0, h1⟩ := (ready_spec hs).1 hj
      have hlt : j < gops.size := (Array.getElem?_eq_some_iff.1 ho).1
      rw [hD] at h0
      have hjm : ¬ j < m := by simpa using h0
      refine ⟨?_, hlt⟩
      have hx : xs[j]? = some (xs[j]'(by rw [pl.len]; exact hlt)) := List.getElem?_eq_getElem (by rw [pl.len]; exact hlt)
      have hclo := (pl.tail j o _ (by omega) ho hx).2.2.2
      have hdown : Closed gops (Dof listed) := fun k hk i hi => by
        rw [hD] at hk ⊢
        have hkm : k < m := by simpa using hk
        unfold edgesAt at hi
        split at hi
        · rename_i o' ho'
          have := pl.back k o' ho' i hi
          simp; omega
        · simp at hi
      rcases Nat.lt_or_ge m j with h | h
      · have := reach_done hdown (hclo m h) h1
        rw [hD] at this
        simp at this
      · omega
    have fin : Region.ready .any gops listed = [] → Q .normal a w := fun hr => by
      have : m = gops.size := by
        rcases Nat.lt_or_ge m gops.size with h | h
        · exact absurd hr (exists_ready hs pl.back m h (by rw [hD]; simp))
        · omega
      subst this
      exact hend g w a _ H R0 F
    cases fuel with
    | zero =>
      have hr : Region.ready .any gops listed = [] := by
        cases hq : Region.ready .any gops listed with
        | nil => rfl
        | cons j l =>
          have := hready j (by rw [hq]; simp)
          omega
      exact ⟨hr, fin hr⟩
    | succ fuel =>
      refine ⟨fin, fun j hj => ?_⟩
      obtain ⟨rfl, hlt⟩ := hready j hj
      have ho : gops[j]? = some gops[j] := Array.getElem?_eq_getElem hlt
      have hx : xs[j]? = some (xs[j]'(by rw [pl.len]; exact hlt)) := List.getElem?_eq_getElem (by rw [pl.len]; exact hlt)
      obtain ⟨h1, h2, h3, _⟩ := pl.tail j _ _ hpm ho hx
      have key := step_sound (Q := Q) (gops := gops) (next := wpAny P .any gops Q fuel (listed.setIfInBounds j true)) S R0 F h1 h2 h3 (hrr j _ hx) (fun g' w' u H1 R1 _ F1 =>
        tail_run S pl hrr hend fuel (j + 1) _ g' w' _ (by simpa using hs) (by omega) (by omega) (fun i => by
          rw [Dof_set hs hlt]
          unfold upd'
          split
          · simp; omega
          · rw [hD]
            rename_i hne
            simp only [decide_eq_decide]
            omega) (by omega) (H.trans H1) R1 (by rw [locFull_succ ho hx]; exact F1)) (fun _ h => h)
      unfold wpOp
      simp only [ho]
      split
      · rename_i hw
        rw [if_pos hw] at key
        exact .inl key
      · rename_i hw
        rw [if_neg hw] at key
        exact key
termination_by fuel => fuel

/-- One operation ahead of the tail, whatever else has been done. -/
def Local (P : Program) (κ : List Tmp) (nt : Nat) (gops : Array Go.Oper) (xs : List Oper) (v : Nat → V) (envD : (Nat → Bool) → List V) (σD : (Nat → Bool) → Store) (p b l : Nat) : Prop :=
  ∀ (j : Nat) (o : Go.Oper) (x : Oper) (D : Nat → Bool) (g : G) (w : World) (a : Act) (next : Act → World → Prop) (Q : Exit → Act → World → Prop), j < p → gops[j]? = some o → xs[j]? = some x → D j = false → (∀ i ∈ edgesAt gops j, D i = true) → Closed gops D → (∀ i, p ≤ i → D i = false) → Rel g w (σD D) →
    Fr κ (locAft gops xs j) nt g w ⟨(List.range j).reverse.map v, envD D, σD D, b, l⟩ a →
    (∀ g' w' u, Ext g w (σD D) g' w' (σD (upd' D j)) → Rel g' w' (σD (upd' D j)) → Fr κ (locOf o.dst x.dst :: locAft gops xs j) nt g' w' ⟨v j :: (List.range j).reverse.map v, envD (upd' D j), σD (upd' D j), b, l⟩ (a.put o.dst u) → next (a.put o.dst u) w') →
    if Region.wanted o (yielded gops a.tmps) then o.wp P a w next Q else next (a.put o.dst undef) w

theorem lo_not_slot (pl : Plan P κ nt gops xs p) {i : Nat} {t : Tmp} (hi : i < p) (h : lo gops xs i = some t) : t ∉ κ := by
  unfold lo at h
  split at h
  · rename_i o x ho hx
    have hp := pl.pre _ o x hi ho hx
    unfold locOf at h
    split at h
    · rename_i t' heq1 heq2
      injection h with h
      subst h
      rw [heq1, heq2] at hp
      simp only [okD, Bool.and_eq_true, Bool.not_eq_true'] at hp
      simpa using hp.1
    · cases h
  · cases h

theorem mid_run (S : Sound P Cf) (pl : Plan P κ nt gops xs p) (LS : Local P κ nt gops xs v envD σD p b l) (hrr : ∀ i x, xs[i]? = some x → step Cf (rr i) x = some (rr (i + 1)))
    (hrs : (rr p).rs = (List.range p).reverse.map v) (hlen : ∀ D, (envD D).length = κ.length) (hnd : κ.Nodup) (hbd : ∀ t ∈ κ, t < nt)
    (hall : ∀ D, (∀ i, D i = decide (i < p)) → σD D = (rr p).st ∧ envD D = (rr p).env)
    (hend : ∀ g w a loc, Ext g0 w0 σ0 g w (rr gops.size).st → Rel g w (rr gops.size).st → Fr κ loc nt g w (rr gops.size) a → Q .normal a w) :
    ∀ (fuel : Nat) (listed : Array Bool) (g : G) (w : World) (a : Act), listed.size = gops.size → (∀ i, p ≤ i → Dof listed i = false) → Closed gops (Dof listed) → left (Dof listed) (List.range gops.size) ≤ fuel → Mid gops xs κ nt p envD v σD g0 w0 σ0 (Dof listed) g w a → wpAny P .any gops Q fuel listed a w
  | fuel, listed, g, w, a, hs, hp, hcl, hf, M => by
    by_cases hfull : ∀ i, i < p → Dof listed i = true
    · have hDp : ∀ i, Dof listed i = decide (i < p) := fun i => by
        by_cases hi : i < p
        · simp [hi, hfull i hi]
        · simp [hi, hp i (by omega)]
      obtain ⟨hst, hen⟩ := hall _ hDp
      have H := M.ext
      have R0 := M.rel
      rw [hst] at H R0
      have F0 := mid_frame (b := b) (l := l) pl hlen hnd hbd M (Nat.le_refl p) (f := lo gops xs) (fun i t hi ht => ⟨hfull i hi, ht⟩)
      rw [hst, hen, ← hrs] at F0
      have F : Fr κ (locFull gops xs p) nt g w (rr p) a := ⟨F0.size, F0.len, F0.env, F0.lc, F0.lk, F0.nd, F0.bd, F0.df⟩
      refine tail_run S pl hrr hend fuel p listed g w a hs (Nat.le_refl _) pl.p_le hDp ?_ H R0 F
      -- the tail's own rounds
      have hcount : ∀ n, n ≤ gops.size → n ≤ p + left (Dof listed) (List.range n) := fun n => by
        induction n with
        | zero => intro _; omega
        | succ n ih =>
          intro hn
          have := ih (by omega)
          unfold left at this ⊢
          rw [List.range_succ, List.filter_append, List.length_append]
          by_cases hnp : n < p
          · omega
          · have h0 := hp n (by omega)
            simp [h0]
            omega
      have := hcount gops.size (Nat.le_refl _)
      omega
    · have hready : ∀ j, j ∈ Region.ready .any gops listed → j < p ∧ j < gops.size ∧ Dof listed j = false ∧ ∀ i ∈ edgesAt gops j, Dof listed i = true := fun j hj => by
        obtain ⟨⟨o, ho⟩, h0, h1⟩ := (ready_spec hs).1 hj
        have hlt : j < gops.size := (Array.getElem?_eq_some_iff.1 ho).1
        refine ⟨?_, hlt, h0, h1⟩
        rcases Nat.lt_or_ge j p with h | h
        · exact h
        · have hx : xs[j]? = some (xs[j]'(by rw [pl.len]; exact hlt)) := List.getElem?_eq_getElem (by rw [pl.len]; exact hlt)
          have hclo := (pl.tail j o _ h ho hx).2.2.2
          exact absurd (fun i hi => reach_done hcl (hclo i (by omega)) h1) hfull
      obtain ⟨i0, hi0⟩ := Classical.not_forall.1 hfull
      obtain ⟨hi0, hne⟩ := Classical.not_imp.1 hi0
      have hne0 : Region.ready .any gops listed ≠ [] := exists_ready hs pl.back i0 (by have := pl.p_le; omega) (by simpa using hne)
      cases fuel with
      | zero =>
        have := left_zero (Nat.le_zero.1 hf) i0 (by have := pl.p_le; omega)
        exact absurd this hne
      | succ fuel =>
        refine ⟨fun hr => absurd hr hne0, fun j hj => ?_⟩
        obtain ⟨hjp, hlt, h0, h1⟩ := hready j hj
        have ho : gops[j]? = some gops[j] := Array.getElem?_eq_getElem hlt
        have hx : xs[j]? = some (xs[j]'(by rw [pl.len]; exact hlt)) := List.getElem?_eq_getElem (by rw [pl.len]; exact hlt)
        have hd := pl.pre j _ _ hjp ho hx
        have F := mid_frame (b := b) (l := l) pl hlen hnd hbd M (Nat.le_of_lt hjp) (f := loAft gops xs j) (fun i t hi ht => by
          unfold loAft at ht
          split at ht
          · rename_i hc
            exact ⟨h1 i (by simpa using hc), ht⟩
          · cases ht)
        have key := LS j _ _ (Dof listed) g w a (wpAny P .any gops Q fuel (listed.setIfInBounds j true)) Q hjp ho hx h0 h1 hcl hp M.rel F (fun g' w' u H1 R1 F1 =>
          mid_run S pl LS hrr hrs hlen hnd hbd hall hend fuel _ g' w' _ (by simpa using hs) (fun i hi => by
              rw [Dof_set hs hlt]
              unfold upd'
              split
              · omega
              · exact hp i hi) (by rw [Dof_set hs hlt]; exact closed_upd hcl h1) (by
              rw [Dof_set hs hlt]
              have := left_lt (Dof listed) j h0 (List.range gops.size) (by simpa using hlt)
              omega) (by
              rw [Dof_set hs hlt]
              refine ⟨M.ext.trans H1, R1, F1.size, F1.df, fun i t ht => ?_, fun i t hi hDi ht => ?_⟩
              · exact F1.env i t ht
              · by_cases hij : i = j
                · subst hij
                  have hlo : locOf gops[i].dst (xs[i]'(by rw [pl.len]; exact hlt)).dst = some t := by
                    unfold lo at ht
                    rw [ho, hx] at ht
                    exact ht
                  have := F1.lc 0 t (by simp [hlo]) (by simp)
                  simpa using this
                · have hDi' : Dof listed i = true := by
                    unfold upd' at hDi
                    rwa [if_neg hij] at hDi
                  have hold := H1.vrel _ _ (M.done i t hi hDi' ht)
                  have hput : (a.put gops[j].dst u).tmps.getD t undef = a.tmps.getD t undef := by
                    cases hdst : gops[j].dst with
                    | none => rfl
                    | some t' =>
                      have hne' : t' ≠ t := fun e => by
                        subst e
                        rw [hdst] at hd
                        unfold okD at hd
                        split at hd
                        · rename_i heq _; cases heq
                        · -- the same temporary twice
                          rename_i t2 heq hxd
                          injection heq with heq
                          subst heq
                          have hloc : lo gops xs j = some t' := by
                            unfold lo
                            rw [ho, hx]
                            simp [locOf, hdst, hxd]
                          exact hij (pl.apart i j t' hi hjp ht hloc)
                        · -- a slot's temporary is no result of the region's own
                          rename_i t2 q heq hxd
                          injection heq with heq
                          subst heq
                          have hk : t' ∈ κ := List.mem_of_getElem? (by simpa using hd)
                          have hlo := lo_not_slot pl hi ht
                          exact hlo hk
                        · cases hd
                      simp only [Act.put, getD_put]
                      rw [if_neg (by simp [hne'])]
                  rw [hput]
                  exact hold))
        unfold wpOp
        simp only [ho]
        split
        · rename_i hw
          rw [if_pos hw] at key
          exact .inl key
        · rename_i hw
          rw [if_neg hw] at key
          exact key
termination_by fuel => fuel
end
end Go.A

/- What an operation looks at. -/
namespace Go.A

def optX : Option X → List X
  | some x => [x]
  | none => []
/-- The operands. -/
def opX : Op → List X
  | .mv x | .pnil _ x | .un _ x | .conv _ x | .len x | .lens x | .fa _ x | .ld _ x | .box _ x | .bxf _ x | .sla _ _ x | .str x | .nlc _ _ x | .ext x _ | .fld _ _ x | .nil x | .mks _ _ x | .mkc _ x | .mkr _ _ _ x => [x]
  | .pick c a b => [c, a, b]
  | .cpy _ x y | .bin _ x y | .eqa _ _ x y | .beq _ x y | .ia _ x y | .iaa _ _ x y | .idx _ x y | .steq _ x y | .st _ x y | .app _ x y | .lk _ _ x y | .mxn _ x y => [x, y]
  | .al _ _ | .nl _ _ | .mkm | .no _ => []
  | .bld _ parts _ => parts.map fun p => p.2.2
  | .bsl _ _ _ parts => parts.map fun p => p.2
  | .slc _ x lo hi mx => x :: (optX lo ++ optX hi ++ optX mx)
  | .slcs x lo hi => x :: (optX lo ++ optX hi)
  | .mkf _ first caps => first ++ caps
  | .mu m k v => [m, k, v]
  | .call _ f args => f :: args

/-- 0: the store is not looked at; 1: the rows' shapes; 2: what lies there; 3: cells are written; 4: objects are added; 5: more. -/
def opCls : Op → Nat
  | .mv _ | .pnil .. | .pick .. | .bin .. | .eqa .. | .beq .. | .un .. | .conv .. | .len _ | .lens _ | .fa .. | .iaa .. | .idx .. | .ext .. | .fld .. | .nil _ | .mkf .. | .mxn .. | .slcs .. | .bxf .. | .sla .. | .steq .. => 0
  | .bsl .fz _ _ _ => 0
  | .nl .fz _ => 0
  | .bld _ _ [] => 0
  | .ia .. | .slc .. => 1
  | .ld .. | .lk .. | .str .. => 2
  | .call .cl _ _ => 2
  | .st .. => 3
  | .al .. | .box .. | .mks .. | .mkc .. | .mkr .. | .mkm | .nl .. | .bsl .. | .bld .. => 4
  | _ => 5

section
variable {Cf : Caller} {r r' r1 : R} {d : D}

theorem mapped_put {x : Option V} {r1 : R} (h : x.map (r.put d) = some r1) : ∃ v, x = some v ∧ r1 = r.put d v := by
  rw [Option.map_eq_some_iff] at h
  obtain ⟨v, h1, h2⟩ := h
  exact ⟨v, h1, h2.symm⟩

theorem bound_congr {dflt : Nat} {x : Option X} (h : ∀ y ∈ optX x, r'.get y = r.get y) : bound r' dflt x = bound r dflt x := by
  cases x with
  | none => rfl
  | some y => simp [bound, h y (by simp [optX])]
theorem fillC_congr : ∀ {qs : List (Nat × Nat × X)} {cs : List C}, (∀ y ∈ qs.map (fun p => p.2.2), r'.get y = r.get y) → fillC r' qs cs = fillC r qs cs
  | [], _, _ => rfl
  | (off, sz, x) :: qs, cs, h => by
    simp only [fillC, h x (by simp)]
    congr 1
    exact congrArg _ (funext fun c => fillC_congr fun y hy => h y (by simp at hy ⊢; exact .inr hy))
theorem fillS_congr {sz : Nat} : ∀ {qs : List (Nat × X)} {cs : List (List C)}, (∀ y ∈ qs.map (fun p => p.2), r'.get y = r.get y) → fillS r' sz qs cs = fillS r sz qs cs
  | [], _, _ => rfl
  | (i, x) :: qs, cs, h => by
    simp only [fillS, h x (by simp)]
    congr 1
    exact fillS_congr fun y hy => h y (by simp at hy ⊢; exact .inr hy)
theorem gets_congr : ∀ {ys : List X}, (∀ y ∈ ys, r'.get y = r.get y) → r'.gets ys = r.gets ys
  | [], _ => rfl
  | y :: ys, h => by
    have ih := gets_congr (ys := ys) fun z hz => h z (List.mem_cons_of_mem _ hz)
    simp only [R.gets, h y (by simp), ih]

/-- What a reading operation may count on. -/
structure Same (n : Nat) (σ σ' : Store) : Prop where
  get : ∀ id o, id < n → σ[id]? = some o → σ'[id]? = some o
/-- Shapes alone. -/
structure SameRow (n : Nat) (σ σ' : Store) : Prop where
  row : ∀ id ver sz o, id < n → σ[id]? = some o → o.isRow ver sz = true → ∃ o', σ'[id]? = some o' ∧ o'.isRow ver sz = true
theorem Same.rows {n : Nat} {σ σ' : Store} (h : Same n σ σ') : SameRow n σ σ' := ⟨fun id ver sz o hid ho hr => ⟨o, h.get id o hid ho, hr⟩⟩

theorem frzV_same {n : Nat} {σ σ' : Store} (h : Same n σ σ') {v v' : V} (hl : v.lt n = true) (hv : frzV σ v = some v') : frzV σ' v = some v' := by
  unfold frzV at hv ⊢
  split at hv
  · rename_i id ver lo m
    have hid : id < n := by simpa [V.lt, C.lt] using hl
    rw [Option.map_eq_some_iff] at hv ⊢
    obtain ⟨xs, h1, h2⟩ := hv
    rw [Option.bind_eq_some_iff] at h1
    obtain ⟨o, h1, h3⟩ := h1
    exact ⟨xs, by rw [Option.bind_eq_some_iff]; exact ⟨o, h.get id o hid h1, h3⟩, h2⟩
  all_goals exact hv
theorem elems_same {n : Nat} {σ σ' : Store} (h : Same n σ σ') {v : V} {xs : List (List Fz)} (hl : v.lt n = true) (hv : elems σ v = some xs) : elems σ' v = some xs := by
  unfold elems at hv ⊢
  split at hv
  · rename_i id ver lo m
    have hid : id < n := by simpa [V.lt, C.lt] using hl
    rw [Option.bind_eq_some_iff] at hv ⊢
    obtain ⟨o, h1, h3⟩ := hv
    exact ⟨o, h.get id o hid h1, h3⟩
  all_goals exact hv
theorem frzVs_same {n : Nat} {σ σ' : Store} (h : Same n σ σ') : ∀ {vs vs' : List V}, V.lts n vs = true → frzVs σ vs = some vs' → frzVs σ' vs = some vs'
  | [], _, _, hv => hv
  | v :: vs, vs', hl, hv => by
    simp only [V.lts, Bool.and_eq_true] at hl
    simp only [frzVs] at hv ⊢
    obtain ⟨y, z, h1, h2, rfl⟩ := ocons_some hv
    rw [frzV_same h hl.1 h1, frzVs_same h hl.2 h2]
    rfl
theorem lts_append {n : Nat} : ∀ {a b : List V}, V.lts n (a ++ b) = (V.lts n a && V.lts n b)
  | [], b => by simp [V.lts]
  | v :: a, b => by simp [V.lts, lts_append (a := a), Bool.and_assoc]
theorem lts_one {n : Nat} : ∀ {cs : List C}, V.lts n (cs.map V.one) = C.lts n cs
  | [] => rfl
  | c :: cs => by simp [V.lts, V.lt, C.lts, lts_one (cs := cs)]
theorem lts_gets {n : Nat} : ∀ {ys : List X}, (∀ y ∈ ys, (r.get y).lt n = true) → V.lts n (r.gets ys) = true
  | [], _ => rfl
  | y :: ys, h => by
    have ih := lts_gets (ys := ys) fun z hz => h z (List.mem_cons_of_mem _ hz)
    simp [R.gets, V.lts, h y (by simp), ih]

/-- An operation that leaves the store alone, at another store. -/
theorem quiet_step {op : Op} {n : Nat} (hq : opCls op ≤ 2) (hg : ∀ x ∈ opX op, r'.get x = r.get x) (hl : ∀ x ∈ opX op, (r.get x).lt n = true) (h1 : opCls op = 1 → SameRow n r.st r'.st) (h2 : opCls op = 2 → Same n r.st r'.st) (h : stepOp Cf r d op = some r1) :
    ∃ v, r1 = r.put d v ∧ stepOp Cf r' d op = some (r'.put d v) := by
  have one : ∀ {x : Option V}, x.map (r.put d) = some r1 → ∀ {y : Option V}, (∀ v, x = some v → y = some v) → ∃ v, r1 = r.put d v ∧ y.map (r'.put d) = some (r'.put d v) := fun {x} hx {y} hy => by
    obtain ⟨v, e1, e2⟩ := mapped_put hx
    exact ⟨v, e2, by rw [hy v e1]; rfl⟩
  cases op <;> simp only [stepOp] at h ⊢ <;> simp only [opX, List.mem_cons, List.not_mem_nil, or_false, forall_eq_or_imp, forall_eq] at hg hl
  case mv x => injection h with h; exact ⟨_, h.symm, by rw [hg]⟩
  case pick c x y => rw [hg.1, hg.2.1, hg.2.2]; exact one h fun _ e => e
  case bin o x y => rw [hg.1, hg.2]; exact one h fun _ e => e
  case beq neg x y => rw [hg.1, hg.2]; exact one h fun _ e => e
  case eqa n neg x y => rw [hg.1, hg.2]; exact one h fun _ e => e
  case un o x => rw [hg]; exact one h fun _ e => e
  case pnil neg x => rw [hg]; exact one h fun _ e => e
  case conv k x => rw [hg]; exact one h fun _ e => e
  case len x => rw [hg]; exact one h fun _ e => e
  case lens x => rw [hg]; exact one h fun _ e => e
  case fa off x => rw [hg]; exact one h fun _ e => e
  case iaa n' sz x i => rw [hg.1, hg.2]; exact one h fun _ e => e
  case ext x i => rw [hg]; exact one h fun _ e => e
  case idx n' x i => rw [hg.1, hg.2]; exact one h fun _ e => e
  case steq neg x y => rw [hg.1, hg.2]; exact one h fun _ e => e
  case sla n' lo x => rw [hg]; exact one h fun _ e => e
  case bxf sz x =>
    rw [hg]
    split at h
    · rename_i hc
      rw [if_pos hc]
      rw [Option.map_eq_some_iff] at h
      obtain ⟨fs, h1', rfl⟩ := h
      exact ⟨_, rfl, by rw [h1']; rfl⟩
    · cases h
  case str x =>
    rw [hg]
    have hs := h2 rfl
    refine one h fun v e => ?_
    rw [Option.bind_eq_some_iff] at e ⊢
    obtain ⟨xs, e1, e2⟩ := e
    exact ⟨xs, elems_same hs (by simpa using hl) e1, e2⟩
  case fld off sz x => rw [hg]; exact one h fun _ e => e
  case nil x => rw [hg]; exact one h fun _ e => e
  case mxn b x y => rw [hg.1, hg.2]; exact one h fun _ e => e
  case mkf f first caps =>
    injection h with h
    rw [gets_congr (r := r) (r' := r') fun y hy => hg y (List.mem_append_left _ hy), gets_congr (r := r) (r' := r') fun y hy => hg y (List.mem_append_right _ hy)]
    exact ⟨_, h.symm, rfl⟩
  case slcs x lo hi =>
    have e1 := hg.1
    have e2 : aslcs r' lo hi (r'.get x) = aslcs r lo hi (r.get x) := by
      rw [e1]
      unfold aslcs
      split
      · rw [bound_congr (r := r) (r' := r') fun y hy => hg.2 y (List.mem_append_left _ hy), bound_congr (r := r) (r' := r') fun y hy => hg.2 y (List.mem_append_right _ hy)]
      · rfl
    rw [e2]
    exact one h fun _ e => e
  case ia sz x i =>
    rw [hg.1, hg.2]
    refine one h fun v e => ?_
    have hrow := h1 rfl
    unfold aia at e ⊢
    split at e
    · rename_i id ver lo m kk q heq _
      split at e
      · rename_i hc
        rw [if_pos hc]
        rw [Option.bind_eq_some_iff] at e ⊢
        obtain ⟨o, e1, e2⟩ := e
        unfold aiaRow at e2
        split at e2
        · rename_i hr
          have hid : id < n := by
            have := hl.1
            rw [heq] at this
            simpa [V.lt, C.lt] using this
          obtain ⟨o', q1, q2⟩ := hrow.row id ver sz o hid e1 hr
          exact ⟨o', q1, by unfold aiaRow; rw [if_pos q2]; exact e2⟩
        · cases e2
      · cases e
    all_goals exact e
  case slc sz x lo hi mx =>
    have hrow := h1 rfl
    have e1 := hg.1
    have hm : mxOk r' hi mx = mxOk r hi mx := by
      cases mx with
      | none => rfl
      | some m => cases hi with
        | none => rfl
        | some hh =>
          have q1 := hg.2 m (by simp [optX])
          have q2 := hg.2 hh (by simp [optX])
          simp only [mxOk, q1, q2]
    by_cases hq : mxOk r hi mx = true
    case neg => rw [if_neg hq] at h; cases h
    rw [if_pos hq] at h
    rw [if_pos (hm.trans hq)]
    refine one h fun v e => ?_
    have b1 : ∀ d, bound r' d lo = bound r d lo := fun d => bound_congr fun y hy => hg.2 y (List.mem_append_left _ (List.mem_append_left _ hy))
    have b2 : ∀ d, bound r' d hi = bound r d hi := fun d => bound_congr fun y hy => hg.2 y (List.mem_append_left _ (List.mem_append_right _ hy))
    rw [e1]
    unfold aslc at e ⊢
    split at e
    · rw [b1, b2]; exact e
    · rw [b1, b2]; exact e
    · rename_i id ver l0 m heq
      rw [b1, b2]
      split at e
      · cases e
      · rename_i hmx
        rw [if_neg hmx]
        obtain ⟨a, b, q1, q2, q3⟩ := two_some e
        rw [q1, q2]
        show ownTo r'.st sz id ver l0 m a b = some v
        unfold ownTo at q3 ⊢
        split at q3
        · rename_i hc
          have hid : id < n := by
            have := hl.1
            rw [heq] at this
            simpa [V.lt, C.lt] using this
          have hany : (r'.st[id]?).any (Ob.isRow ver sz) = true := by
            have := hc.2.2
            cases ho : r.st[id]? with
            | none => simp [ho] at this
            | some o =>
              simp [ho] at this
              obtain ⟨o', q4, q5⟩ := hrow.row id ver sz o hid ho this
              simp [q4, q5]
          rw [if_pos ⟨hc.1, hc.2.1, hany⟩]
          exact q3
        · cases q3
    · cases e
  case ld sz x =>
    have hs := h2 rfl
    rw [hg]
    refine one h fun v e => ?_
    have key : ∀ {id ver i : Nat} {el : List C}, id < n → r.st.elem id ver i = some el → r'.st.elem id ver i = some el := fun {id ver i el} hid he => by
      unfold Store.elem at he ⊢
      rw [Option.bind_eq_some_iff] at he ⊢
      obtain ⟨o, q1, q2⟩ := he
      exact ⟨o, hs.get id o hid q1, q2⟩
    unfold ald at e ⊢
    split at e
    · rename_i id ver i off heq
      have hid : id < n := by
        have := hl
        rw [heq] at this
        simpa [V.lt, C.lt] using this
      rw [Option.map_eq_some_iff] at e ⊢
      obtain ⟨c, q1, q2⟩ := e
      unfold Store.cell at q1 ⊢
      rw [Option.bind_eq_some_iff] at q1
      obtain ⟨el, q3, q4⟩ := q1
      exact ⟨c, by rw [Option.bind_eq_some_iff]; exact ⟨el, key hid q3, q4⟩, q2⟩
    · exact e
    · rename_i m id ver i off heq
      have hid : id < n := by
        have := hl
        rw [heq] at this
        simpa [V.lt, C.lt] using this
      rw [Option.map_eq_some_iff] at e ⊢
      obtain ⟨c, q1, q2⟩ := e
      rw [Option.bind_eq_some_iff] at q1
      obtain ⟨el, q3, q4⟩ := q1
      exact ⟨c, by rw [Option.bind_eq_some_iff]; exact ⟨el, key hid q3, q4⟩, q2⟩
    · exact e
    · cases e
  case lk zero ok m k =>
    have hs := h2 rfl
    rw [hg.1, hg.2]
    refine one h fun v e => ?_
    unfold alk at e ⊢
    split at e
    · rename_i id kk heq _
      have hid : id < n := by
        have := hl.1
        rw [heq] at this
        simpa [V.lt, C.lt] using this
      rw [Option.map_eq_some_iff] at e ⊢
      obtain ⟨es, q1, q2⟩ := e
      rw [Option.bind_eq_some_iff] at q1
      obtain ⟨o, q3, q4⟩ := q1
      exact ⟨es, by rw [Option.bind_eq_some_iff]; exact ⟨o, hs.get id o hid q3, q4⟩, q2⟩
    · exact e
    · cases e
  case call m f args =>
    cases m
    case cl =>
      have hs := h2 rfl
      have e1 := hg.1
      have e2 := gets_congr (r := r) (r' := r') (ys := args) hg.2
      rw [e1, e2]
      unfold acall at h ⊢
      split at h
      · rename_i g first caps heq
        simp only at h ⊢
        rw [Option.bind_eq_some_iff] at h
        obtain ⟨x, q1, q2⟩ := h
        rw [Option.bind_eq_some_iff] at q1
        obtain ⟨as, q3, q4⟩ := q1
        have hlt : V.lts n (first.map V.one ++ (r.gets args ++ caps.map V.one)) = true := by
          have h0 := hl.1
          rw [heq] at h0
          simp only [V.lt, C.lt, Bool.and_eq_true] at h0
          rw [lts_append, lts_append, lts_one, lts_one, lts_gets hl.2, h0.1, h0.2]
          rfl
        rw [frzVs_same hs hlt q3]
        simp only [Option.bind_some, q4]
        unfold callCl at q2 ⊢
        split at q2
        · rename_i hc
          injection q2 with q2
          exact ⟨_, q2.symm, by rw [if_pos hc]⟩
        · cases q2
      · cases h
    all_goals (simp only [opCls] at hq; omega)
  case bsl b sz zero parts =>
    cases b <;> simp only [opCls] at hq
    case fz =>
      rw [fillS_congr (r := r) (r' := r') hg]
      rw [Option.bind_eq_some_iff] at h
      obtain ⟨es, q1, q2⟩ := h
      simp only [absl, Option.map_eq_some_iff] at q2
      obtain ⟨xs, q2, q3⟩ := q2
      exact ⟨vsl xs, q3.symm, by rw [q1]; simp only [Option.bind_some, absl, q2, Option.map_some, abslF]⟩
    all_goals omega
  case nl b sz =>
    cases b <;> simp only [opCls] at hq
    case fz =>
      simp only [anl, Option.some.injEq] at h ⊢
      exact ⟨_, h.symm, rfl⟩
    all_goals omega
  case bld zero parts fresh =>
    cases fresh with
    | nil =>
      rw [fillC_congr (r := r) (r' := r') hg]
      rw [Option.map_eq_some_iff] at h
      obtain ⟨cs, q1, q2⟩ := h
      simp only [ticket] at q1 ⊢
      refine ⟨.agg cs, ?_, by rw [q1]; simp [abld, tokens, R.allocs]⟩
      rw [← q2]
      simp [abld, tokens, R.allocs]
    | cons j js => simp only [opCls] at hq; omega
  all_goals (simp only [opCls] at hq; omega)
end
end Go.A

/- Operations at another frame. -/
namespace Go.A
mutual
theorem exC : ∀ c : C, ∃ n, ∀ m, n ≤ m → c.lt m = true
  | .f _ => ⟨0, fun _ _ => by simp [C.lt]⟩
  | .ap t _ _ => ⟨t + 1, fun _ h => by simp [C.lt]; omega⟩
  | .ptr id _ _ _ => ⟨id + 1, fun _ h => by simp [C.lt]; omega⟩
  | .fp _ _ => ⟨0, fun _ _ => by simp [C.lt]⟩
  | .own id _ _ _ => ⟨id + 1, fun _ h => by simp [C.lt]; omega⟩
  | .map id => ⟨id + 1, fun _ h => by simp [C.lt]; omega⟩
  | .fn _ a b => by
    obtain ⟨n, h1⟩ := exCs a
    obtain ⟨m, h2⟩ := exCs b
    exact ⟨max n m, fun k hk => by simp only [C.lt, Bool.and_eq_true]; exact ⟨h1 k (by omega), h2 k (by omega)⟩⟩
  | .un => ⟨0, fun _ _ => by simp [C.lt]⟩
theorem exCs : ∀ cs : List C, ∃ n, ∀ m, n ≤ m → C.lts m cs = true
  | [] => ⟨0, fun _ _ => rfl⟩
  | c :: cs => by
    obtain ⟨n, h1⟩ := exC c
    obtain ⟨m, h2⟩ := exCs cs
    exact ⟨max n m, fun k hk => by simp only [C.lts, Bool.and_eq_true]; exact ⟨h1 k (by omega), h2 k (by omega)⟩⟩
end
mutual
theorem exV : ∀ c : V, ∃ n, ∀ m, n ≤ m → c.lt m = true
  | .one c => by
    obtain ⟨n, h⟩ := exC c
    exact ⟨n, fun m hm => by simp only [V.lt]; exact h m hm⟩
  | .agg cs => by
    obtain ⟨n, h⟩ := exCs cs
    exact ⟨n, fun m hm => by simp only [V.lt]; exact h m hm⟩
  | .tup vs => by
    obtain ⟨n, h⟩ := exVs vs
    exact ⟨n, fun m hm => by simp only [V.lt]; exact h m hm⟩
theorem exVs : ∀ cs : List V, ∃ n, ∀ m, n ≤ m → V.lts m cs = true
  | [] => ⟨0, fun _ _ => rfl⟩
  | c :: cs => by
    obtain ⟨n, h1⟩ := exV c
    obtain ⟨m, h2⟩ := exVs cs
    exact ⟨max n m, fun k hk => by simp only [V.lts, Bool.and_eq_true]; exact ⟨h1 k (by omega), h2 k (by omega)⟩⟩
end
theorem exX (f : X → V) : ∀ xs : List X, ∃ n, ∀ m, n ≤ m → ∀ x ∈ xs, (f x).lt m = true
  | [] => ⟨0, fun _ _ x h => by simp at h⟩
  | x :: xs => by
    obtain ⟨n, h1⟩ := exV (f x)
    obtain ⟨m, h2⟩ := exX f xs
    refine ⟨max n m, fun k hk y hy => ?_⟩
    rcases List.mem_cons.1 hy with rfl | hy
    · exact h1 k (by omega)
    · exact h2 k (by omega) y hy

section
variable {Cf : Caller} {r r' r1 : R} {d : D}

def R.at (r : R) (σ : Store) : R := { r with st := σ }

/-- What an operation does to the store, by its class. -/
def EffOk (c : Nat) (σ σ1 : Store) : Prop := (c ≤ 2 → σ1 = σ) ∧ (c = 3 → σ1.length = σ.length ∧ ∀ n, SameRow n σ σ1 ∧ SameRow n σ1 σ) ∧ (c = 4 → ∃ os, σ1 = σ ++ os)

theorem eff_step {op : Op} (hg : ∀ x ∈ opX op, r'.get x = r.get x) (hst : r'.st = r.st) (h : stepOp Cf r d op = some r1) :
    ∃ v σ1, r1 = (r.at σ1).put d v ∧ stepOp Cf r' d op = some ((r'.at σ1).put d v) ∧ EffOk (opCls op) r.st σ1 := by
  by_cases hq : opCls op ≤ 2
  · -- quiet: the same store
    obtain ⟨n, hn⟩ := exX r.get (opX op)
    obtain ⟨v, h1, h2⟩ := quiet_step (n := n) hq hg (hn n (Nat.le_refl _)) (fun _ => by rw [hst]; exact ⟨fun id ver sz o _ ho hr => ⟨o, ho, hr⟩⟩) (fun _ => by rw [hst]; exact ⟨fun id o _ ho => ho⟩) h
    refine ⟨v, r.st, h1, ?_, fun _ => rfl, fun h => by omega, fun h => by omega⟩
    rw [h2, ← hst]
    rfl
  · have e4 : ∀ {os : List Ob}, opCls op = 4 → EffOk (opCls op) r.st (r.st ++ os) := fun {os} hc => ⟨fun h => by omega, fun h => by omega, fun _ => ⟨os, rfl⟩⟩
    have e5 : ∀ {σ1 : Store}, opCls op = 5 → EffOk (opCls op) r.st σ1 := fun {σ1} hc => ⟨fun h => by omega, fun h => by omega, fun h => by omega⟩
    have anl' : ∀ {b : B} {sz : Nat}, b ≠ .fz → anl r d sz b = some r1 → ∃ v os, r1 = (r.at (r.st ++ os)).put d v ∧ anl r' d sz b = some ((r'.at (r.st ++ os)).put d v) := fun {b sz} hb hn => by
      cases b with
      | fz => exact absurd rfl hb
      | tk =>
        simp only [anl, Option.some.injEq] at hn ⊢
        exact ⟨_, _, hn.symm, by simp only [R.alloc, R.at, hst]⟩
      | rw =>
        simp only [anl, Option.some.injEq] at hn ⊢
        exact ⟨_, _, hn.symm, by simp only [R.alloc, R.at, hst]⟩
    cases op <;> simp only [stepOp] at h ⊢ <;> simp only [opX, List.mem_cons, List.not_mem_nil, or_false, forall_eq_or_imp, forall_eq] at hg
    case st sz x v =>
      rw [hg.1, hg.2]
      rw [Option.map_eq_some_iff] at h
      obtain ⟨r2, h, rfl⟩ := h
      unfold ast at h ⊢
      split at h
      · rename_i id ver i off heq
        split at h
        · rename_i hl
          rw [if_pos hl]
          unfold R.write at h ⊢
          split at h
          · rename_i hk
            rw [if_pos hk, hst]
            rw [Option.map_eq_some_iff] at h
            obtain ⟨ob, h1, rfl⟩ := h
            rw [h1]
            refine ⟨vun, r.st.set id ob, rfl, by simp only [Option.map_some, R.setOb, R.at, hst], fun h => by simp [opCls] at h, fun _ => ⟨by simp, fun n => ⟨⟨fun id' ver' sz' o _ ho hr => ?_⟩, ⟨fun id' ver' sz' o _ ho hr => ?_⟩⟩⟩, fun h => by simp [opCls] at h⟩
            · rw [Option.bind_eq_some_iff] at h1
              obtain ⟨o0, h2, h3⟩ := h1
              by_cases e : id' = id
              · subst e
                rw [h2] at ho
                injection ho with ho
                subst ho
                unfold Ob.write at h3
                split at h3
                · split at h3
                  · rw [Option.map_eq_some_iff] at h3
                    obtain ⟨e', _, rfl⟩ := h3
                    exact ⟨_, get_set_same h2, by simpa [Ob.isRow, upd] using hr⟩
                  · cases h3
                · cases h3
              · exact ⟨o, by rw [List.getElem?_set_ne (Ne.symm e)]; exact ho, hr⟩
            · rw [Option.bind_eq_some_iff] at h1
              obtain ⟨o0, h2, h3⟩ := h1
              by_cases e : id' = id
              · subst e
                rw [get_set_same h2] at ho
                injection ho with ho
                subst ho
                refine ⟨o0, h2, ?_⟩
                unfold Ob.write at h3
                split at h3
                · split at h3
                  · rw [Option.map_eq_some_iff] at h3
                    obtain ⟨e', _, rfl⟩ := h3
                    simpa [Ob.isRow, upd] using hr
                  · cases h3
                · cases h3
              · exact ⟨o, by rw [List.getElem?_set_ne (Ne.symm e)] at ho; exact ho, hr⟩
          · cases h
        · cases h
      · cases h
    case al zero fresh =>
      injection h with h
      exact ⟨_, _, h.symm, by simp only [aal, R.allocs, R.at, hst], e4 rfl⟩
    case box sz x =>
      rw [hg]
      split at h
      · rename_i hc
        injection h with h
        exact ⟨_, _, h.symm, by rw [if_pos hc]; simp only [R.alloc, R.at, hst], e4 rfl⟩
      · cases h
    case mks zero fresh n =>
      rw [hg]
      unfold amks at h ⊢
      split at h
      · split at h
        · rename_i hc
          injection h with h
          exact ⟨_, _, h.symm, by rw [if_pos hc]; simp only [R.alloc, R.at, hst], e4 rfl⟩
        · cases h
      · split at h
        · rename_i hc
          injection h with h
          exact ⟨_, _, h.symm, by rw [if_pos hc]; simp only [R.allocs, R.at, hst], e4 rfl⟩
        · cases h
      · cases h
    case mkr zero j sz n =>
      rw [hg]
      unfold amkr at h ⊢
      split at h
      · split at h
        · rename_i hc
          injection h with h
          exact ⟨_, _, h.symm, by rw [if_pos hc]; simp only [R.allocs, R.at, hst], e4 rfl⟩
        · cases h
      · cases h
    case mkc sz n =>
      rw [hg]
      unfold amkc at h ⊢
      split at h
      · split at h
        · rename_i hc
          injection h with h
          exact ⟨_, _, h.symm, by rw [if_pos hc]; simp only [R.alloc, R.at, hst], e4 rfl⟩
        · cases h
      · cases h
    case mkm =>
      injection h with h
      exact ⟨_, _, h.symm, by simp only [R.alloc, R.at, hst], e4 rfl⟩
    case nl b sz =>
      cases b
      case fz => simp [opCls] at hq
      case tk => obtain ⟨v, os, h1, h2⟩ := anl' (by simp) h; exact ⟨v, _, h1, h2, e4 rfl⟩
      case rw => obtain ⟨v, os, h1, h2⟩ := anl' (by simp) h; exact ⟨v, _, h1, h2, e4 rfl⟩
    case nlc b sz x =>
      rw [hg]
      split at h
      · rename_i hc
        rw [if_pos hc]
        cases b
        case fz =>
          simp only [anl, Option.some.injEq] at h ⊢
          exact ⟨_, r.st, h.symm, by rw [← hst]; rfl, e5 rfl⟩
        case tk => obtain ⟨v, os, h1, h2⟩ := anl' (by simp) h; exact ⟨v, _, h1, h2, e5 rfl⟩
        case rw => obtain ⟨v, os, h1, h2⟩ := anl' (by simp) h; exact ⟨v, _, h1, h2, e5 rfl⟩
      · cases h
    case bsl b sz zero parts =>
      rw [fillS_congr (r := r) (r' := r') hg]
      rw [Option.bind_eq_some_iff] at h
      obtain ⟨es, h1, h2⟩ := h
      rw [h1]
      cases b
      case fz => simp [opCls] at hq
      case tk =>
        simp only [absl, Option.map_eq_some_iff] at h2
        obtain ⟨xs, h2, rfl⟩ := h2
        exact ⟨_, _, rfl, by simp only [Option.bind_some, absl, h2, Option.map_some, abslT, R.alloc, R.at, hst], e4 rfl⟩
      case rw =>
        simp only [absl, Option.some.injEq] at h2
        subst h2
        exact ⟨_, _, rfl, by simp only [Option.bind_some, absl, R.alloc, R.at, hst], e4 rfl⟩
    case bld zero parts fresh =>
      rw [fillC_congr (r := r) (r' := r') hg, hst]
      rw [Option.map_eq_some_iff] at h
      obtain ⟨cs, h1, rfl⟩ := h
      rw [h1]
      refine ⟨.agg cs, r.st ++ tokens fresh, rfl, by simp only [Option.map_some, abld, R.allocs, R.at, hst], e4 ?_⟩
      cases fresh with
      | nil => simp [opCls] at hq
      | cons j js => rfl
    case cpy sz s x =>
      rw [hg.1, hg.2, hst]
      rw [Option.bind_eq_some_iff] at h
      obtain ⟨ys, h1, h2⟩ := h
      rw [h1]
      simp only [Option.bind_some]
      split at h2
      · rename_i hok
        rw [if_pos hok]
        unfold acpy at h2 ⊢
        split at h2
        · split at h2
          · cases h2
          · rename_i hk
            simp only [if_neg hk]
            rw [Option.bind_eq_some_iff] at h2
            obtain ⟨o, h3, h4⟩ := h2
            rw [hst, h3]
            simp only [Option.bind_some]
            cases o with
            | tok _ _ => simp [copyRow] at h4
            | mp _ => simp [copyRow] at h4
            | cells ver' sz' es =>
              simp only [copyRow] at h4 ⊢
              split at h4
              · rename_i hc
                injection h4 with h4
                exact ⟨_, _, h4.symm, by rw [if_pos hc]; simp only [R.setOb, R.at, hst], e5 rfl⟩
              · cases h4
        · cases h2
      · cases h2
    case app sz s x =>
      rw [hg.1, hg.2, hst]
      rw [Option.bind_eq_some_iff] at h
      obtain ⟨ys, h1, h2⟩ := h
      rw [h1]
      simp only [Option.bind_some]
      split at h2
      · rename_i hok
        rw [if_pos hok]
        unfold aapp at h2 ⊢
        split at h2
        · rw [Option.bind_eq_some_iff] at h2
          obtain ⟨o, h3, h4⟩ := h2
          rw [hst, h3]
          simp only [Option.bind_some]
          unfold appTok at h4 ⊢
          split at h4
          · rename_i hc
            injection h4 with h4
            exact ⟨_, _, h4.symm, by rw [if_pos hc]; simp only [R.setOb, R.at, hst], e5 rfl⟩
          · cases h4
        · rw [Option.bind_eq_some_iff] at h2
          obtain ⟨o, h3, h4⟩ := h2
          rw [hst, h3]
          simp only [Option.bind_some]
          unfold appRow at h4 ⊢
          split at h4
          · rename_i hc
            injection h4 with h4
            exact ⟨_, _, h4.symm, by rw [if_pos hc]; simp only [R.setOb, R.at, hst], e5 rfl⟩
          · rename_i hc0
            split at h4
            · rename_i hc
              injection h4 with h4
              exact ⟨_, _, h4.symm, by rw [if_neg hc0, if_pos hc]; simp only [R.at, ← hst], e5 rfl⟩
            · cases h4
        · cases h2
      · cases h2
    case mu m k v =>
      rw [hg.1, hg.2.1, hg.2.2]
      rw [Option.map_eq_some_iff] at h
      obtain ⟨r2, h, rfl⟩ := h
      unfold amu at h ⊢
      split at h
      · rw [Option.map_eq_some_iff] at h
        obtain ⟨es, h1, rfl⟩ := h
        rw [hst, h1]
        exact ⟨vun, _, rfl, by simp only [Option.map_some, muTo, R.setOb, R.at, hst], e5 rfl⟩
      · cases h
    case call m f args =>
      have e1 := hg.1
      have e2 := gets_congr (r := r) (r' := r') (ys := args) hg.2
      rw [e1, e2]
      unfold acall at h ⊢
      split at h
      · cases m
        case cl => simp [opCls] at hq
        case ck =>
          simp only at h ⊢
          split at h
          · cases h
          · rename_i hown
            rw [if_neg hown, hst]
            rw [Option.map_eq_some_iff] at h
            obtain ⟨x, h1, rfl⟩ := h
            rw [h1]
            exact ⟨_, _, rfl, by simp only [Option.map_some, callCk, R.at, hst], e5 rfl⟩
        case op =>
          simp only at h ⊢
          rw [hst]
          rw [Option.map_eq_some_iff] at h
          obtain ⟨x, h1, rfl⟩ := h
          rw [h1]
          exact ⟨_, _, rfl, by simp only [Option.map_some, callOp, R.at], e5 rfl⟩
      · cases h
    all_goals first
      | (simp [opCls] at hq; done)
      | (cases h; done)

/-! ### With the guard -/
def stepX (x : Oper) : List X := opX x.op ++ (match x.guard with
  | some (y, _) => [y]
  | none => [])

theorem step_quiet {x : Oper} {n : Nat} (hq : opCls x.op ≤ 2) (hg : ∀ y ∈ stepX x, r'.get y = r.get y) (hl : ∀ y ∈ stepX x, (r.get y).lt n = true) (h1 : opCls x.op = 1 → SameRow n r.st r'.st) (h2 : opCls x.op = 2 → Same n r.st r'.st) (h : step Cf r x = some r1) :
    ∃ v, r1 = r.put x.dst v ∧ step Cf r' x = some (r'.put x.dst v) := by
  obtain ⟨d, op, g⟩ := x
  cases g with
  | none => exact quiet_step hq (fun y hy => hg y (by simp [stepX, hy])) (fun y hy => hl y (by simp [stepX, hy])) h1 h2 h
  | some p =>
    obtain ⟨y, b⟩ := p
    simp only [step] at h ⊢
    rw [hg y (by simp [stepX])]
    unfold aguard at h ⊢
    split at h
    · split at h
      · rename_i hb
        rw [if_pos hb]
        exact quiet_step hq (fun y hy => hg y (by simp [stepX, hy])) (fun y hy => hl y (by simp [stepX, hy])) h1 h2 h
      · rename_i hb
        rw [if_neg hb]
        injection h with h
        exact ⟨.tup [], h.symm, rfl⟩
    · injection h with h
      exact ⟨.tup [], h.symm, rfl⟩
    · cases h

/-- No effect, or what the class allows. -/
def EffOk' (c : Nat) (σ σ1 : Store) : Prop := σ1 = σ ∨ EffOk c σ σ1
theorem step_eff {x : Oper} (hg : ∀ y ∈ stepX x, r'.get y = r.get y) (hst : r'.st = r.st) (h : step Cf r x = some r1) :
    ∃ v σ1, r1 = (r.at σ1).put x.dst v ∧ step Cf r' x = some ((r'.at σ1).put x.dst v) ∧ EffOk' (opCls x.op) r.st σ1 := by
  obtain ⟨d, op, g⟩ := x
  cases g with
  | none =>
    obtain ⟨v, σ1, q1, q2, q3⟩ := eff_step (fun y hy => hg y (by simp [stepX, hy])) hst h
    exact ⟨v, σ1, q1, q2, .inr q3⟩
  | some p =>
    obtain ⟨y, b⟩ := p
    simp only [step] at h ⊢
    rw [hg y (by simp [stepX])]
    unfold aguard at h ⊢
    split at h
    · split at h
      · rename_i hb
        rw [if_pos hb]
        obtain ⟨v, σ1, q1, q2, q3⟩ := eff_step (fun y hy => hg y (by simp [stepX, hy])) hst h
        exact ⟨v, σ1, q1, q2, .inr q3⟩
      · rename_i hb
        rw [if_neg hb]
        injection h with h
        exact ⟨.tup [], r.st, h.symm, by rw [← hst]; rfl, .inl rfl⟩
    · injection h with h
      exact ⟨.tup [], r.st, h.symm, by rw [← hst]; rfl, .inl rfl⟩
    · cases h

theorem put_rs (r : R) (d : D) (v : V) : ∃ y, (r.put d v).rs = y :: r.rs := by cases d <;> exact ⟨_, rfl⟩
theorem put_env (r : R) (d : D) (v : V) : (r.put d v).env = match d with
    | .slot t => r.env.set t v
    | _ => r.env := by cases d <;> rfl
end
end Go.A
