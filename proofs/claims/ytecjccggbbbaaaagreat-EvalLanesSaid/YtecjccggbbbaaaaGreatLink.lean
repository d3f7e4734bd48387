/- The arguments of a law: data by value. -/
import Derived.Test.YtecjccggbbbaaaaGreatSoundF
import GoSem.ClaimChange
import Derived.DataReads
import Derived.ProofKit
set_option linter.unusedVariables false
set_option linter.unusedSimpArgs false
namespace Go.A

/-- One after the other. -/
def inTurn : List (List Fz → Prop) → List Fz → Prop
  | [], cs => cs = []
  | p :: ps, cs => ∃ a b, cs = a ++ b ∧ p a ∧ inTurn ps b
/-- Data of a type: numbers, truth values, slices, structs, arrays. -/
def hasTy (P : Program) : Nat → TypeId → List Fz → Prop
  | 0, _, _ => False
  | n + 1, t, cs => match P.underlying t with
    | some .bool => ∃ b, cs = [.lit (.bool b)]
    | some (.int k) => ∃ x, cs = [.lit (.int k x)] ∧ (Lit.int k x).wf = true
    | some (.slice e) => ∃ xs : List (List Fz), cs = [.sl xs] ∧ xs.length ≤ maxLen ∧ ∀ x ∈ xs, hasTy P n e x
    | some (.struct fs) => inTurn (fs.toList.map fun f => hasTy P n f.type) cs
    | some (.array m e) => inTurn (List.replicate m (hasTy P n e)) cs
    | _ => False
/-- Fields that lie one behind the other. -/
def contig (P : Program) : List Field → Nat → Nat → Bool
  | [], off, total => off == total
  | f :: fs, off, total => f.offset == off && contig P fs (off + P.cellsOf f.type) total
def plainTy (P : Program) : Nat → TypeId → Bool
  | 0, _ => false
  | n + 1, t => match P.underlying t with
    | some .bool => P.cellsOf t == 1
    | some (.int _) => P.cellsOf t == 1
    | some (.slice e) => P.cellsOf t == 1 && decide (0 < P.cellsOf e) && plainTy P n e
    | some (.struct fs) => (fs.toList.all fun f => plainTy P n f.type) && contig P fs.toList 0 (P.cellsOf t)
    | some (.array m e) => plainTy P n e && (P.cellsOf t == m * P.cellsOf e)
    | _ => false

theorem mapM_some {α β : Type} {f : α → Option β} : ∀ {l : List α} {ys : List β}, l.mapM f = some ys → ys.length = l.length ∧ ∀ (i : Nat) (x : α), l[i]? = some x → ∃ y, ys[i]? = some y ∧ f x = some y
  | [], ys, h => by
    simp at h
    subst h
    exact ⟨rfl, fun i x hx => by simp at hx⟩
  | a :: l, ys, h => by
    rw [List.mapM_cons] at h
    cases ha : f a with
    | none => simp [ha] at h
    | some b =>
      cases hl : l.mapM f with
      | none => simp [ha, hl] at h
      | some zs =>
        simp [ha, hl] at h
        subst h
        obtain ⟨h1, h2⟩ := mapM_some hl
        refine ⟨by simp [h1], fun i x hx => ?_⟩
        cases i with
        | zero => simp at hx; subst hx; exact ⟨b, by simp, ha⟩
        | succ i => simpa using h2 i x (by simpa using hx)
theorem choose_list {α : Type} {p : Nat → α → Prop} : ∀ (n : Nat), (∀ i, i < n → ∃ x, p i x) → ∃ xs : List α, xs.length = n ∧ ∀ i x, xs[i]? = some x → p i x
  | 0, _ => ⟨[], rfl, fun i x h => by simp at h⟩
  | n + 1, h => by
    obtain ⟨xs, h1, h2⟩ := choose_list n fun i hi => h i (by omega)
    obtain ⟨x, hx⟩ := h n (by omega)
    refine ⟨xs ++ [x], by simp [h1], fun i y hy => ?_⟩
    rw [List.getElem?_append] at hy
    split at hy
    · exact h2 i y hy
    · rename_i hi
      have := lt_of_some hy
      simp at this
      have e : i = n := by omega
      subst e
      rw [h1] at hy
      simp at hy
      rw [← hy]
      exact hx

section
variable {H : Type} {enc : TypeId × Value → H} {P : Program} {w : World}

/-- All that there is. -/
def allCells (w : World) : Cells := fun b _ => b < w.heap.size
def repCells (w : World) (xs : List Fz) (cs : List Value) : Prop := xs.length = cs.length ∧ ∀ (j : Nat) (x : Fz) (u : Value), xs[j]? = some x → cs[j]? = some u → rep w (allCells w) x u
theorem repCells.append {xs ys : List Fz} {cs ds : List Value} (h : repCells w xs cs) (k : repCells w ys ds) : repCells w (xs ++ ys) (cs ++ ds) := by
  refine ⟨by simp [h.1, k.1], fun j x u hx hu => ?_⟩
  rw [List.getElem?_append] at hx hu
  have := h.1
  split at hx
  · rw [if_pos (by omega)] at hu; exact h.2 j x u hx hu
  · rw [if_neg (by omega)] at hu; rw [h.1] at hx; exact k.2 _ x u hx hu
theorem repCells.one {x : Fz} {u : Value} (h : rep w (allCells w) x u) : repCells w [x] [u] :=
  ⟨rfl, fun j y v hy hv => by
    cases j with
    | zero => simp at hy hv; rw [← hy, ← hv]; exact h
    | succ j => simp at hy⟩

theorem trod_rep {sp : Nat → Bool} {hd : Bool} : ∀ (m : Nat) (t : TypeId) (fuel : Nat) (cs : List Value) (x : DataW H × List MemPlace), plainTy P m t = true → DataW.trod enc P w 0 sp hd fuel t cs = some x →
    cs.length = P.cellsOf t ∧ ∃ xs, hasTy P m t xs ∧ repCells w xs cs
  | 0, _, _, _, _, h, _ => by simp [plainTy] at h
  | _ + 1, _, 0, _, _, _, h => by simp [DataW.trod] at h
  | m + 1, t, fuel + 1, cs, x, hp, h => by
    have ih := fun t' fuel' cs' x' => trod_rep (sp := sp) (hd := hd) m t' fuel' cs' x'
    unfold plainTy at hp
    unfold DataW.trod at h
    unfold hasTy
    split at hp
    · -- a truth value
      rename_i hu
      rw [hu] at h
      simp only [beq_iff_eq] at hp
      split at h <;> try (cases h; done)
      all_goals rename_i heq1 <;> try (injection heq1 with heq1; cases heq1; done)
      rename_i b
      exact ⟨by simp [hp], [.lit (.bool b)], ⟨b, rfl⟩, .one (by simp [rep, scal])⟩
    · -- a number
      rename_i k hu
      rw [hu] at h
      simp only [beq_iff_eq] at hp
      split at h <;> try (cases h; done)
      all_goals rename_i heq1 <;> try (injection heq1 with heq1; cases heq1; done)
      rename_i k0 k1 n
      injection heq1 with heq1
      injection heq1 with heq1
      subst heq1
      split at h
      · rename_i hc
        obtain ⟨rfl, hw⟩ := hc
        exact ⟨by simp [hp], [.lit (.int k1 n)], ⟨n, rfl, hw⟩, .one (by simp [rep, scal])⟩
      · cases h
    · -- a slice
      rename_i e hu
      rw [hu] at h
      simp only [Bool.and_eq_true, beq_iff_eq, decide_eq_true_eq] at hp
      obtain ⟨⟨hp1, hp2⟩, hp3⟩ := hp
      split at h <;> try (cases h; done)
      all_goals rename_i heq1 <;> try (injection heq1 with heq1; cases heq1; done)
      · refine ⟨by simp [hp1], [.sl []], ⟨[], rfl, Nat.zero_le _, fun x hx => by simp at hx⟩, .one ?_⟩
        rw [rep]
        exact ⟨none, 0, 0, rfl, Nat.le_refl _, by simp only [lenAll], .inl rfl⟩
      · rename_i e0 a len cap
        injection heq1 with heq1
        injection heq1 with heq1
        subst heq1
        dsimp only at h
        split at h
        · rename_i hc
          rw [Option.bind_eq_some_iff] at h
          obtain ⟨els, h1, _⟩ := h
          obtain ⟨_, h2⟩ := mapM_some h1
          have hel : ∀ i, i < len → ∃ ci, w.cells? 0 (a.add (i * P.cellsOf e)) (P.cellsOf e) = some ci ∧ ∃ xi, hasTy P m e xi ∧ repCells w xi ci := fun i hi => by
            obtain ⟨y, _, h3⟩ := h2 i i (by simp [hi])
            rw [Option.bind_eq_some_iff] at h3
            obtain ⟨ci, h3, h4⟩ := h3
            exact ⟨ci, h3, (ih e fuel ci y hp3 h4).2⟩
          obtain ⟨xs, hx1, hx2⟩ := choose_list (p := fun i xi => ∃ ci, w.cells? 0 (a.add (i * P.cellsOf e)) (P.cellsOf e) = some ci ∧ hasTy P m e xi ∧ repCells w xi ci) len fun i hi => by
            obtain ⟨ci, q1, xi, q2, q3⟩ := hel i hi
            exact ⟨xi, ci, q1, q2, q3⟩
          refine ⟨by simp [hp1], [.sl xs], ⟨xs, rfl, by omega, fun y hy => ?_⟩, .one ?_⟩
          · obtain ⟨i, hi⟩ := List.mem_iff_getElem?.1 hy
            obtain ⟨_, _, q2, _⟩ := hx2 i y hi
            exact q2
          · rw [rep]
            refine ⟨some a, cap, P.cellsOf e, by rw [hx1], by omega, lenAll_of fun y hy => ?_, ?_⟩
            · obtain ⟨i, hi⟩ := List.mem_iff_getElem?.1 hy
              obtain ⟨ci, q1, _, q3⟩ := hx2 i y hi
              rw [q3.1]
              exact (World.cells?_some q1).2.1
            · rcases Nat.eq_zero_or_pos len with h0 | h0
              · exact .inl (List.eq_nil_of_length_eq_zero (by omega))
              · obtain ⟨c0, q1, _⟩ := hel 0 h0
                obtain ⟨_, l0, g0⟩ := World.cells?_some q1
                have hc0 := g0 0 hp2
                rw [Nat.zero_mul, Addr.add_zero', Addr.add_zero', List.getElem?_eq_getElem (by omega)] at hc0
                have hspot := World.cell?_spot hc0
                obtain ⟨b, o, s⟩ := a
                simp only at hspot
                subst hspot
                refine .inr ⟨b, o, rfl, repRows_of fun i y hi => ?_⟩
                obtain ⟨ci, q1, _, q3⟩ := hx2 i y hi
                obtain ⟨_, l1, g1⟩ := World.cells?_some q1
                refine repRow_of fun j z hj => ?_
                have hjl : j < ci.length := by rw [← q3.1]; exact lt_of_some hj
                have hcell := g1 j (by omega)
                rw [add_plain', add_plain', List.getElem?_eq_getElem hjl] at hcell
                exact ⟨ci[j], World.block_lt_of_cell? w ⟨b, o + i * P.cellsOf e + j, none⟩ hcell, hcell, q3.2 j z _ hj (List.getElem?_eq_getElem hjl)⟩
        · cases h
    · -- a struct
      rename_i fs hu
      rw [hu] at h
      simp only [Bool.and_eq_true] at hp
      obtain ⟨hp1, hp2⟩ := hp
      dsimp only at h
      split at h
      · rename_i hlen
        refine ⟨hlen, ?_⟩
        rw [Option.map_eq_some_iff] at h
        obtain ⟨ys, h1, _⟩ := h
        obtain ⟨_, h2⟩ := mapM_some h1
        have key : ∀ (l : List Field) (off : Nat), (∀ f ∈ l, f ∈ fs.toList) → contig P l off (P.cellsOf t) = true → ∃ xs, inTurn (l.map fun f => hasTy P m f.type) xs ∧ repCells w xs (cs.drop off) := by
          intro l
          induction l with
          | nil =>
            intro off _ hcg
            simp only [contig, beq_iff_eq] at hcg
            exact ⟨[], by simp only [List.map_nil, inTurn], by rw [List.drop_eq_nil_of_le (by omega)]; exact ⟨rfl, fun j x u h => by simp at h⟩⟩
          | cons f l ihl =>
            intro off hmem hcg
            simp only [contig, Bool.and_eq_true, beq_iff_eq] at hcg
            obtain ⟨hf, hcg⟩ := hcg
            obtain ⟨xs, q1, q2⟩ := ihl (off + P.cellsOf f.type) (fun g hg => hmem g (List.mem_cons_of_mem _ hg)) hcg
            obtain ⟨i, hi⟩ := List.mem_iff_getElem?.1 (hmem f (by simp))
            obtain ⟨y, _, h3⟩ := h2 i f hi
            obtain ⟨_, as, q3, q4⟩ := ih f.type fuel _ y (List.all_eq_true.1 hp1 f (hmem f (by simp))) h3
            rw [hf] at q4
            refine ⟨as ++ xs, by simp only [List.map_cons, inTurn]; exact ⟨as, xs, rfl, q3, q1⟩, ?_⟩
            have e1 : cs.drop off = (cs.drop off).take (P.cellsOf f.type) ++ cs.drop (off + P.cellsOf f.type) := by
              rw [← List.drop_drop, List.take_append_drop]
            rw [e1]
            exact q4.append q2
        obtain ⟨xs, q1, q2⟩ := key fs.toList 0 (fun f h => h) hp2
        exact ⟨xs, q1, by simpa using q2⟩
      · cases h
    · -- an array
      rename_i n e hu
      rw [hu] at h
      simp only [Bool.and_eq_true, beq_iff_eq] at hp
      obtain ⟨hp1, hp2⟩ := hp
      dsimp only at h
      split at h
      · rename_i hlen
        refine ⟨hlen, ?_⟩
        rw [Option.map_eq_some_iff] at h
        obtain ⟨ys, h1, _⟩ := h
        obtain ⟨_, h2⟩ := mapM_some h1
        have key : ∀ (k i : Nat), i + k = n → ∃ xs, inTurn (List.replicate k (hasTy P m e)) xs ∧ repCells w xs (cs.drop (i * P.cellsOf e)) := by
          intro k
          induction k with
          | zero =>
            intro i hik
            have : i = n := by omega
            subst this
            exact ⟨[], rfl, by rw [List.drop_eq_nil_of_le (by omega)]; exact ⟨rfl, fun j x u h => by simp at h⟩⟩
          | succ k ihk =>
            intro i hik
            obtain ⟨xs, q1, q2⟩ := ihk (i + 1) (by omega)
            obtain ⟨y, _, h3⟩ := h2 i i (List.getElem?_range (by omega))
            obtain ⟨_, as, q3, q4⟩ := ih e fuel _ y hp1 h3
            refine ⟨as ++ xs, by simp only [List.replicate_succ, inTurn]; exact ⟨as, xs, rfl, q3, q1⟩, ?_⟩
            have e1 : cs.drop (i * P.cellsOf e) = (cs.drop (i * P.cellsOf e)).take (P.cellsOf e) ++ cs.drop ((i + 1) * P.cellsOf e) := by
              rw [Nat.add_mul, Nat.one_mul, ← List.drop_drop, List.take_append_drop]
            rw [e1]
            exact q4.append q2
        obtain ⟨xs, q1, q2⟩ := key n 0 (by omega)
        exact ⟨xs, q1, by simpa using q2⟩
      · cases h
    · cases hp
end
end Go.A

/- From the machine's equation to what a law's row asks. -/
namespace Go.A
open Go.RowKit

def G0 (w : World) : G := ⟨fun _ => 0, fun _ _ => undef, fun _ => .no, allCells w⟩
theorem rel0 (w : World) : Rel (G0 w) w [] := ⟨fun _ _ h => h, fun id o h => by simp at h⟩
def isAggT (P : Program) (t : TypeId) : Bool := match P.underlying t with
  | some (.struct _) | some (.array _ _) => true
  | _ => false
def argOf (agg : Bool) (xs : List Fz) : V := if agg then vagg xs else .one (.f (xs.headD (.lit undef)))

section
variable {H : Type} {enc : TypeId × Value → H} {P : Program} {w : World}

theorem arg_rel {m : Nat} {t : TypeId} {v : Value} {d : DataW H} {ps : List MemPlace} {base : Nat} {sp : Nat → Bool} {hd : Bool} (hp : plainTy P m t = true) (hok : Value.okWide P w .any base t v) (h : DataW.Trod enc P w 0 sp hd t v d ps) :
    ∃ xs, hasTy P m t xs ∧ vrel (G0 w) w [] (argOf (isAggT P t) xs) v := by
  obtain ⟨fuel, h⟩ := h
  obtain ⟨hl, xs, h1, h2⟩ := trod_rep m t fuel _ _ hp h
  refine ⟨xs, h1, ?_⟩
  have agg : isAggT P t = true → vrel (G0 w) w [] (argOf (isAggT P t) xs) v := fun ha => by
    have : ∃ cs, v = .agg cs := by
      unfold isAggT at ha
      unfold Value.okWide at hok
      split at ha
      · rename_i heq; rw [heq] at hok; obtain ⟨cs, e, _⟩ := hok; exact ⟨cs, e⟩
      · rename_i heq; rw [heq] at hok; obtain ⟨cs, e, _⟩ := hok; exact ⟨cs, e⟩
      · cases ha
    obtain ⟨cs, rfl⟩ := this
    rw [ha]
    simp only [argOf, if_true, vagg, vrel]
    exact ⟨cs, rfl, crels_map_f (by simpa [Value.cells] using h2.1.symm) fun j x u hx hu => h2.2 j x u hx (by simpa [Value.cells] using hu)⟩
  cases ha : isAggT P t with
  | true => rw [← ha]; exact agg ha
  | false =>
    -- one cell
    have hone : v.oneCell' = true ∧ P.cellsOf t = 1 := by
      cases m with
      | zero => simp [plainTy] at hp
      | succ m =>
        unfold plainTy at hp
        unfold isAggT at ha
        unfold Value.okWide at hok
        split at hp
        · rename_i hu
          simp only [beq_iff_eq] at hp
          simp only [hu, Cell.okWide] at hok
          refine ⟨?_, hp⟩
          cases v <;> simp_all [Cell.okWide, Cell.ok, Value.oneCell']
        · rename_i k hu
          simp only [beq_iff_eq] at hp
          simp only [hu, Cell.okWide] at hok
          refine ⟨?_, hp⟩
          cases v <;> simp_all [Cell.okWide, Cell.ok, Value.oneCell']
        · rename_i e hu
          simp only [Bool.and_eq_true, beq_iff_eq] at hp
          simp only [hu, Cell.okWide] at hok
          refine ⟨?_, hp.1.1⟩
          cases v <;> simp_all [Cell.okWide, Cell.ok, Value.oneCell']
        · rename_i hu; rw [hu] at ha; simp at ha
        · rename_i hu; rw [hu] at ha; simp at ha
        · cases hp
    have hc := cells_one hone.1
    rw [hc] at h2
    obtain ⟨q1, q2⟩ := h2
    match xs, q1 with
    | [x], _ =>
      simp only [argOf, Bool.false_eq_true, if_false, List.headD_cons, vrel, crel]
      exact q2 0 x v (by simp) (by simp)

/-- What a call says, over all of memory. -/
theorem calls_true {C : Caller} (S : Sound P C) {f : Nat} {args : List V} {us : List Value} {b : Bool} (hc : C f args [] = some (vbool b, [])) (hv : vrels (G0 w) w [] args us) :
    Calls P f us.toArray w fun e w' => e = .returned (.bool b) ∧ Below w.heap.size w w' := by
  obtain ⟨_, h⟩ := S f args [] (vbool b) [] hc
  refine (h (G0 w) w us (rel0 w) hv).mono fun e w' he => ?_
  obtain ⟨u, g', rfl, h1, _, H⟩ := he
  obtain ⟨rfl, _⟩ := vrel_lit h1
  exact ⟨rfl, H.os, H.tape, H.output, H.size, fun k hk => H.frame k hk rfl⟩
end
end Go.A

/- A law of two arguments that returns true. -/
namespace Go.A
open Go.RowKit Go.ChangeShapes

section
variable {H : Type} {enc : TypeId × Value → H} {P : Program}

/-- The row's own word, when nothing that was there has turned. -/
theorem post_below {f : Func} {s : ChangeSpec} {apart fresh handsOn again : Bool} {W W' : World} {args : Array Value} {v : Value} {ds gs : List (DataW H)} {before : List MemPlace}
    (hW : DataW.Whole enc P f.params.toList s.vars apart W args.toList ds gs before) (hB : Below W.heap.size W W') (hv : s.vars = [])
    (hres : ∀ (b : Nat) (sp : Nat → Bool) (hd : Bool), DataW.TrodAll enc P W' b sp hd f.resultTypes.toList (v.resultList f.resultTypes.size) (s.fn H (ds ++ gs)).results [])
    (hargs : ∀ sp : Nat → Bool, (∀ p ∈ before, sp p.block = true) → DataW.TrodAll enc P W' 0 sp true f.params.toList args.toList (s.fn H (ds ++ gs)).args before)
    (hvars : (s.fn H (ds ++ gs)).vars = [])
    (hok : ∀ (j : Nat) (t : TypeId) (r : Value), f.resultTypes[j]? = some t → (v.resultList f.resultTypes.size)[j]? = some r → Value.okWide P W' .any 0 t r) :
    s.post enc P f apart fresh handsOn again W args v W' := by
  have inside : ∀ x ∈ before, x.block < W.heap.size := hW.lt
  have mine : ∀ x ∈ before, (fun b => decide (b < W.heap.size)) x.block = true := fun x hx => decide_eq_true (inside x hx)
  have nv : ∀ sp : Nat → Bool, DataW.TrodVars enc P W' sp s.vars (s.fn H (ds ++ gs)).vars [] := fun sp => by rw [hv, hvars]; rfl
  have whole := hW
  obtain ⟨_, _, _, _, _, unfrozen, once⟩ := hW
  refine ⟨ds, gs, before, [], before, [], whole, hres _ _ _, hargs _ mine, nv _, World.keptBut_mono (fun x hx => ⟨hx, .inr (by simpa using hx)⟩) (hB.frame _), fun _ => ⟨hok, _, _, before, ⟨before, [], trodAll_append (hargs _ fun _ _ => rfl) (hres _ _ _), nv _, by simp, fun b off hx => ?_, once⟩, fun x hx _ => by simpa using hx⟩⟩
  rw [hB.frozen (p := ⟨b, off, none⟩) (inside _ hx)]
  exact unfrozen b off hx

theorem law_two {C : Caller} (S : Sound P C) {f : Nat} {fn : Func} {s : ChangeSpec} {t1 t2 tb m1 m2 : Nat} {apart fresh handsOn again : Bool}
    (hl : laidOutB P = true) (hpar : fn.params = #[t1, t2]) (hres : fn.resultTypes = #[tb]) (hb : P.underlying tb = some .bool) (hvars : s.vars = [])
    (r1 : P.readableRec t1 = true) (r2 : P.readableRec t2 = true) (z1 : t1 < P.types.size) (z2 : t2 < P.types.size) (p1 : plainTy P m1 t1 = true) (p2 : plainTy P m2 t2 = true)
    (hfn : ∀ (d1 d2 : DataW H), (s.fn H [d1, d2]).results = [.lit (.bool true)] ∧ (s.fn H [d1, d2]).args = [d1, d2] ∧ (s.fn H [d1, d2]).vars = [])
    (hA : ∀ x1 x2, hasTy P m1 t1 x1 → hasTy P m2 t2 x2 → C f [argOf (isAggT P t1) x1, argOf (isAggT P t2) x2] [] = some (vbool true, []))
    {W : World} {base : Nat} {args : Array Value} {ds gs : List (DataW H)} {before : List MemPlace}
    (hval : ∀ (j : Nat) t v, fn.params[j]? = some t → args[j]? = some v → Value.okWide P W .any base t v)
    (hW : DataW.Whole enc P fn.params.toList s.vars apart W args.toList ds gs before) :
    Calls P f args W fun e W' => ∃ v, e = .returned v ∧ s.post enc P fn apart fresh handsOn again W args v W' := by
  have hW' := hW
  obtain ⟨p, q, hA0, hV, rfl, hfz, hnd⟩ := hW
  rw [hpar] at hA0 hval
  obtain ⟨v1, v2, d1, d2, q1, q2, rfl, rfl, rfl, h1, h2⟩ := trodAll_two hA0
  rw [hvars] at hV
  obtain ⟨rfl, rfl⟩ := trodVars_none hV
  obtain ⟨x1, k1, e1⟩ := arg_rel p1 (hval 0 t1 v1 rfl rfl) h1
  obtain ⟨x2, k2, e2⟩ := arg_rel p2 (hval 1 t2 v2 rfl rfl) h2
  have hv : vrels (G0 W) W [] [argOf (isAggT P t1) x1, argOf (isAggT P t2) x2] [v1, v2] := by
    simp only [vrels]
    exact ⟨v1, [v2], rfl, e1, v2, [], rfl, e2, rfl⟩
  refine (calls_true S (hA x1 x2 k1 k2) hv).mono fun e W' he => ?_
  obtain ⟨rfl, hB⟩ := he
  obtain ⟨f1, f2, f3⟩ := hfn d1 d2
  have hlt := hW'.lt
  have g1 : ∀ x ∈ q1, x.block < W.heap.size := fun x hx => hlt x (by simp [hx])
  have g2 : ∀ x ∈ q2, x.block < W.heap.size := fun x hx => hlt x (by simp [hx])
  refine ⟨_, rfl, post_below hW' hB hvars (fun _ _ _ => ?_) (fun sp hsp => ?_) (by rw [List.append_nil, f3]) (ok_one hres rfl (okWide_bool_mk hb _))⟩
  · rw [hres]
    show DataW.TrodAll enc P W' _ _ _ [tb] [.bool true] (s.fn H ([d1, d2] ++ [])).results []
    rw [List.append_nil, f1]
    exact trodAll_mk1 (shut_bool hb _)
  · rw [hpar]
    show DataW.TrodAll enc P W' 0 sp true [t1, t2] [v1, v2] (s.fn H ([d1, d2] ++ [])).args (q1 ++ q2 ++ [])
    rw [List.append_nil, List.append_nil, f2]
    exact trodAll_mk2 (WideElems.Trod_stays hl r1 z1 h1 (fun x hx => hB.same (g1 x hx)) (fun x hx => hsp x (by simp [hx]))) (WideElems.Trod_stays hl r2 z2 h2 (fun x hx => hB.same (g2 x hx)) (fun x hx => hsp x (by simp [hx])))
end
end Go.A

/- Laws of one and of three arguments that return true. -/
namespace Go.A
open Go.RowKit Go.ChangeShapes

section
variable {H : Type} {enc : TypeId × Value → H} {P : Program}

theorem law_one {C : Caller} (S : Sound P C) {f : Nat} {fn : Func} {s : ChangeSpec} {t1 tb m1 : Nat} {apart fresh handsOn again : Bool}
    (hl : laidOutB P = true) (hpar : fn.params = #[t1]) (hres : fn.resultTypes = #[tb]) (hb : P.underlying tb = some .bool) (hvars : s.vars = [])
    (r1 : P.readableRec t1 = true) (z1 : t1 < P.types.size) (p1 : plainTy P m1 t1 = true)
    (hfn : ∀ (d1 : DataW H), (s.fn H [d1]).results = [.lit (.bool true)] ∧ (s.fn H [d1]).args = [d1] ∧ (s.fn H [d1]).vars = [])
    (hA : ∀ x1, hasTy P m1 t1 x1 → C f [argOf (isAggT P t1) x1] [] = some (vbool true, []))
    {W : World} {base : Nat} {args : Array Value} {ds gs : List (DataW H)} {before : List MemPlace}
    (hval : ∀ (j : Nat) t v, fn.params[j]? = some t → args[j]? = some v → Value.okWide P W .any base t v)
    (hW : DataW.Whole enc P fn.params.toList s.vars apart W args.toList ds gs before) :
    Calls P f args W fun e W' => ∃ v, e = .returned v ∧ s.post enc P fn apart fresh handsOn again W args v W' := by
  have hW' := hW
  obtain ⟨p, q, hA0, hV, rfl, hfz, hnd⟩ := hW
  rw [hpar] at hA0 hval
  obtain ⟨v1, d1, rfl, rfl, h1⟩ := trodAll_one hA0
  rw [hvars] at hV
  obtain ⟨rfl, rfl⟩ := trodVars_none hV
  obtain ⟨x1, k1, e1⟩ := arg_rel p1 (hval 0 t1 v1 rfl rfl) h1
  have hv : vrels (G0 W) W [] [argOf (isAggT P t1) x1] [v1] := by
    simp only [vrels]
    exact ⟨v1, [], rfl, e1, rfl⟩
  refine (calls_true S (hA x1 k1) hv).mono fun e W' he => ?_
  obtain ⟨rfl, hB⟩ := he
  obtain ⟨f1, f2, f3⟩ := hfn d1
  have hlt := hW'.lt
  have g1 : ∀ x ∈ p, x.block < W.heap.size := fun x hx => hlt x (by simp [hx])
  refine ⟨_, rfl, post_below hW' hB hvars (fun _ _ _ => ?_) (fun sp hsp => ?_) (by rw [List.append_nil, f3]) (ok_one hres rfl (okWide_bool_mk hb _))⟩
  · rw [hres]
    show DataW.TrodAll enc P W' _ _ _ [tb] [.bool true] (s.fn H ([d1] ++ [])).results []
    rw [List.append_nil, f1]
    exact trodAll_mk1 (shut_bool hb _)
  · rw [hpar]
    show DataW.TrodAll enc P W' 0 sp true [t1] [v1] (s.fn H ([d1] ++ [])).args (p ++ [])
    rw [List.append_nil, List.append_nil, f2]
    exact trodAll_mk1 (WideElems.Trod_stays hl r1 z1 h1 (fun x hx => hB.same (g1 x hx)) (fun x hx => hsp x (by simp [hx])))

theorem law_three {C : Caller} (S : Sound P C) {f : Nat} {fn : Func} {s : ChangeSpec} {t1 t2 t3 tb m1 m2 m3 : Nat} {apart fresh handsOn again : Bool}
    (hl : laidOutB P = true) (hpar : fn.params = #[t1, t2, t3]) (hres : fn.resultTypes = #[tb]) (hb : P.underlying tb = some .bool) (hvars : s.vars = [])
    (r1 : P.readableRec t1 = true) (r2 : P.readableRec t2 = true) (r3 : P.readableRec t3 = true) (z1 : t1 < P.types.size) (z2 : t2 < P.types.size) (z3 : t3 < P.types.size)
    (p1 : plainTy P m1 t1 = true) (p2 : plainTy P m2 t2 = true) (p3 : plainTy P m3 t3 = true)
    (hfn : ∀ (d1 d2 d3 : DataW H), (s.fn H [d1, d2, d3]).results = [.lit (.bool true)] ∧ (s.fn H [d1, d2, d3]).args = [d1, d2, d3] ∧ (s.fn H [d1, d2, d3]).vars = [])
    (hA : ∀ x1 x2 x3, hasTy P m1 t1 x1 → hasTy P m2 t2 x2 → hasTy P m3 t3 x3 → C f [argOf (isAggT P t1) x1, argOf (isAggT P t2) x2, argOf (isAggT P t3) x3] [] = some (vbool true, []))
    {W : World} {base : Nat} {args : Array Value} {ds gs : List (DataW H)} {before : List MemPlace}
    (hval : ∀ (j : Nat) t v, fn.params[j]? = some t → args[j]? = some v → Value.okWide P W .any base t v)
    (hW : DataW.Whole enc P fn.params.toList s.vars apart W args.toList ds gs before) :
    Calls P f args W fun e W' => ∃ v, e = .returned v ∧ s.post enc P fn apart fresh handsOn again W args v W' := by
  have hW' := hW
  obtain ⟨p, q, hA0, hV, rfl, hfz, hnd⟩ := hW
  rw [hpar] at hA0 hval
  obtain ⟨v1, v2, v3, d1, d2, d3, q1, q2, q3, rfl, rfl, rfl, h1, h2, h3⟩ := trodAll_three hA0
  rw [hvars] at hV
  obtain ⟨rfl, rfl⟩ := trodVars_none hV
  obtain ⟨x1, k1, e1⟩ := arg_rel p1 (hval 0 t1 v1 rfl rfl) h1
  obtain ⟨x2, k2, e2⟩ := arg_rel p2 (hval 1 t2 v2 rfl rfl) h2
  obtain ⟨x3, k3, e3⟩ := arg_rel p3 (hval 2 t3 v3 rfl rfl) h3
  have hv : vrels (G0 W) W [] [argOf (isAggT P t1) x1, argOf (isAggT P t2) x2, argOf (isAggT P t3) x3] [v1, v2, v3] := by
    simp only [vrels]
    exact ⟨v1, [v2, v3], rfl, e1, v2, [v3], rfl, e2, v3, [], rfl, e3, rfl⟩
  refine (calls_true S (hA x1 x2 x3 k1 k2 k3) hv).mono fun e W' he => ?_
  obtain ⟨rfl, hB⟩ := he
  obtain ⟨f1, f2, f3⟩ := hfn d1 d2 d3
  have hlt := hW'.lt
  have g1 : ∀ x ∈ q1, x.block < W.heap.size := fun x hx => hlt x (by simp [hx])
  have g2 : ∀ x ∈ q2, x.block < W.heap.size := fun x hx => hlt x (by simp [hx])
  have g3 : ∀ x ∈ q3, x.block < W.heap.size := fun x hx => hlt x (by simp [hx])
  refine ⟨_, rfl, post_below hW' hB hvars (fun _ _ _ => ?_) (fun sp hsp => ?_) (by rw [List.append_nil, f3]) (ok_one hres rfl (okWide_bool_mk hb _))⟩
  · rw [hres]
    show DataW.TrodAll enc P W' _ _ _ [tb] [.bool true] (s.fn H ([d1, d2, d3] ++ [])).results []
    rw [List.append_nil, f1]
    exact trodAll_mk1 (shut_bool hb _)
  · rw [hpar]
    show DataW.TrodAll enc P W' 0 sp true [t1, t2, t3] [v1, v2, v3] (s.fn H ([d1, d2, d3] ++ [])).args (q1 ++ q2 ++ q3 ++ [])
    rw [List.append_nil, List.append_nil, f2, List.append_assoc]
    have m1' := WideElems.Trod_stays hl r1 z1 h1 (fun x hx => hB.same (g1 x hx)) (fun x hx => hsp x (by simp [hx]))
    have m2' := WideElems.Trod_stays hl r2 z2 h2 (fun x hx => hB.same (g2 x hx)) (fun x hx => hsp x (by simp [hx]))
    have m3' := WideElems.Trod_stays hl r3 z3 h3 (fun x hx => hB.same (g3 x hx)) (fun x hx => hsp x (by simp [hx]))
    first | exact trodAll_mk3 m1' m2' m3' | (rw [← List.append_assoc]; exact trodAll_mk3 m1' m2' m3')
end
end Go.A
