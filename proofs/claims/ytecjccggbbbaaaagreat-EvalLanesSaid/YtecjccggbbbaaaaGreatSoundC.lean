/- Operations that make memory: variables, boxes, values out of parts. -/
import Derived.Test.YtecjccggbbbaaaaGreatSoundB
import Derived.Laws.StructEq
import Derived.ChangeKeysEq
set_option linter.unusedVariables false
set_option linter.unusedSimpArgs false
namespace Go.A
section
variable {P : Program} {κ : List Tmp} {loc : List (Option Tmp)} {nt : Nat} {g : G} {w : World} {r r' : R} {a : Act} {o : Go.Oper} {d : D} {next : Act → World → Prop} {Q : Exit → Act → World → Prop}

theorem zeroOf_some {t : TypeId} {zs : List Value} (h : zeroOf P t = some zs) : ∃ i z, P.info? t = some i ∧ i.zero = some z ∧ z.cells.toList = zs := by
  unfold zeroOf at h
  rw [Option.map_eq_some_iff] at h
  obtain ⟨z, h1, h2⟩ := h
  rw [Option.bind_eq_some_iff] at h1
  obtain ⟨i, h1, h3⟩ := h1
  exact ⟨i, z, h1, h3, h2⟩
theorem run_zeroValue {t : TypeId} {i : TypeInfo} {z : Value} (h1 : P.info? t = some i) (h2 : i.zero = some z) : (zeroValue t).run P w = .ok z w := by simp [zeroValue, typeInfo, h1, h2]

theorem al_sound (R0 : Rel g w r.st) (L : Low r.base r.lim r.st) (F : Fr κ loc nt g w r a) {t : TypeId} {zs : List Value} {zero : List C} {fresh : List (Nat × Nat)} (ho : o.op = .alloc t) (hd : okD κ nt o.dst d = true) (hz : zeroOf P t = some zs) (hc : okCells zs zero = true) (hf : okFresh zs fresh = true)
    (k : Then κ (locOf o.dst d :: loc) nt g w r (aal r d zero fresh) (a.put o.dst) next) : o.wp P a w next Q := by
  obtain ⟨i, z, h1, h2, h3⟩ := zeroOf_some hz
  obtain ⟨hz1, hz2⟩ := okCells_sound (g := g) (w := w) (σ := r.st) hc
  obtain ⟨g1, H1, R1, hcr⟩ := tickets fresh R0 hf hz1
  have hul := crels_length hcr
  rw [ticket_length] at hul
  obtain ⟨H2, R2⟩ := alloc_rows (sz := zero.length) (es := [ticket r.st.length fresh zero]) (us := zs) R1 t (by simp [hul]) (by
    have := rowRel_one hcr hz2
    rwa [ticket_length] at this)
  have hst : (r.st ++ tokens fresh).length = r.st.length + fresh.length := by simp [tokens_length]
  have e : aal r d zero fresh = (r.allocs (tokens fresh ++ [.cells 0 zero.length [ticket r.st.length fresh zero]])).put d (.one (.ptr (r.st.length + fresh.length) 0 0 0)) := rfl
  rw [e] at k
  refine eff_then (r1 := r.allocs (tokens fresh ++ [.cells 0 zero.length [ticket r.st.length fresh zero]])) F hd (H1.trans (by simpa [R.allocs, List.append_assoc] using H2)) (by simpa [R.allocs, List.append_assoc] using R2) (L.append _) rfl rfl (u := .pointer (some ⟨w.heap.size, 0, none⟩)) ?_ ?_ k
  · unfold execOp
    simp only [ho]
    have : z.cells = zs.toArray := by rw [← h3]
    simp [Instr.alloc, run_zeroValue (w := w) h1 h2, newVar, newRow, this]
  · have := ptr_alloc (g := g1) (w := w) (σ := r.st ++ tokens fresh) (sz := zero.length) (es := [ticket r.st.length fresh zero]) (.cells zs.toArray t)
    rw [hst] at this
    simpa [R.allocs, List.append_assoc, tokens_length] using this

theorem box_sound (R0 : Rel g w r.st) (L : Low r.base r.lim r.st) (F : Fr κ loc nt g w r a) {t : TypeId} {x : Operand} {sz : Nat} (ho : o.op = .box t x) (hd : okD κ nt o.dst d = true) (h0 : 0 < sz)
    {vx : V} (hx : vrel g w r.st vx (a.eval x)) (hl : vx.cells.length = sz) (hk : C.kns vx.cells = true)
    (k : Then κ (locOf o.dst d :: loc) nt g w r ((r.alloc (.cells 0 sz [vx.cells])).put d (.one (.ptr r.st.length 0 0 0))) (a.put o.dst) next) : o.wp P a w next Q := by
  subst hl
  obtain ⟨k1, k2⟩ := vrel_cells hx hk h0
  obtain ⟨H2, R2⟩ := alloc_rows (sz := vx.cells.length) (es := [vx.cells]) R0 t (by simp [crels_length k1]) (rowRel_one k1 k2)
  refine eff_then (r1 := r.alloc (.cells 0 vx.cells.length [vx.cells])) F hd H2 R2 (L.append _) rfl rfl (u := .pointer (some ⟨w.heap.size, 0, none⟩)) ?_ (ptr_alloc _) k
  unfold execOp
  simp [ho, Instr.box, newVar, newRow]

/-! ### Out of parts -/
theorem fold_get : ∀ (l : List Value) (k off : Nat) (cs : Array Value), off + k + l.length ≤ cs.size →
    ((l.zipIdx k).foldl (fun cs (cj : Value × Nat) => cs.setIfInBounds (off + cj.2) cj.1) cs).size = cs.size ∧
    ∀ q, ((l.zipIdx k).foldl (fun cs (cj : Value × Nat) => cs.setIfInBounds (off + cj.2) cj.1) cs)[q]? = if q < off + k then cs[q]? else if q < off + k + l.length then l[q - (off + k)]? else cs[q]?
  | [], k, off, cs, _ => ⟨by simp, fun q => by
    simp only [List.zipIdx_nil, List.foldl_nil, List.length_nil, Nat.add_zero]
    split <;> rfl⟩
  | v :: l, k, off, cs, h => by
    simp only [List.length_cons] at h
    obtain ⟨h1, h2⟩ := fold_get l (k + 1) off (cs.setIfInBounds (off + k) v) (by simp; omega)
    simp only [List.zipIdx_cons, List.foldl_cons]
    refine ⟨by rw [h1]; simp, fun q => ?_⟩
    rw [h2]
    by_cases c1 : q < off + k
    · rw [if_pos (by omega), if_pos c1, Array.getElem?_setIfInBounds, if_neg (by omega)]
    · rw [if_neg c1]
      by_cases c2 : q = off + k
      · subst c2
        rw [if_pos (by omega), if_pos (by simp), Array.getElem?_setIfInBounds]
        simp
        omega
      · rw [if_neg (by omega)]
        by_cases c3 : q < off + k + (l.length + 1)
        · rw [if_pos (by omega), if_pos (by simpa using c3), show q - (off + k) = q - (off + (k + 1)) + 1 from by omega]
          simp
        · rw [if_neg (by omega), if_neg (by simpa using c3), Array.getElem?_setIfInBounds, if_neg (by omega)]
theorem fold_get' (l cs : Array Value) (off : Nat) (h : off + l.size ≤ cs.size) :
    (l.zipIdx.foldl (fun cs (cj : Value × Nat) => cs.setIfInBounds (off + cj.2) cj.1) cs).size = cs.size ∧
    ∀ q, (l.zipIdx.foldl (fun cs (cj : Value × Nat) => cs.setIfInBounds (off + cj.2) cj.1) cs)[q]? = if q < off then cs[q]? else if q < off + l.size then l.toList[q - off]? else cs[q]? := by
  have := fold_get l.toList 0 off cs (by simpa using h)
  rw [← Array.foldl_toList, Array.toList_zipIdx]
  simpa using this

/-- Cells over others, in memory. -/
theorem crels_over {σ : Store} {cs cs' e : List C} {us us' : List Value} {es : List Value} {off : Nat} (h : crels g w σ cs us) (he : crels g w σ e es) (ho : over cs off e = some cs') (hl : us'.length = us.length)
    (hget : ∀ q, us'[q]? = if q < off then us[q]? else if q < off + es.length then es[q - off]? else us[q]?) : crels g w σ cs' us' := by
  obtain ⟨o1, o2, o3⟩ := over_some ho
  have hel := crels_length he
  refine crels_of (by rw [hl, o2]; exact crels_length h) fun j c u hc hu => ?_
  rw [o3] at hc
  rw [hget] at hu
  have sub : ∀ {l : List C} {m : List Value} {j' : Nat}, crels g w σ l m → l[j']? = some c → m[j']? = some u → crel g w σ c u := fun hr h1 h2 => by
    obtain ⟨u', k1, k2⟩ := crels_get hr h1
    rw [k1] at h2
    injection h2 with h2
    rw [← h2]; exact k2
  by_cases c1 : j < off
  · rw [if_pos c1] at hc hu; exact sub h hc hu
  · rw [if_neg c1] at hc hu
    by_cases c2 : j < off + e.length
    · rw [if_pos c2] at hc
      rw [if_pos (by omega)] at hu
      exact sub he hc hu
    · rw [if_neg c2] at hc
      rw [if_neg (by omega)] at hu
      exact sub h hc hu

/-- The parts of a value. -/
def okParts (κ : List Tmp) (loc : List (Option Tmp)) (place : Nat → Option (Nat × Nat)) : List (Nat × Operand) → List (Nat × Nat × X) → Bool
  | [], [] => true
  | (i, x) :: ps, (off, sz, y) :: qs => (place i == some (off, sz)) && decide (0 < sz) && okX κ loc x y && okParts κ loc place ps qs
  | _, _ => false

theorem fill_sound {place : Nat → Option (Nat × Nat)} (F : Fr κ loc nt g w r a) : ∀ (ps : List (Nat × Operand)) (qs : List (Nat × Nat × X)) (cells : Array Value) (cs cs' : List C), okParts κ loc place ps qs = true → crels g w r.st cs cells.toList → (∀ v ∈ cells.toList, v.oneCell' = true) →
    fillC r qs cs = some cs' → ∃ cells', Instr.fill place cells (ps.map fun p => (p.1, a.eval p.2)) = some cells' ∧ crels g w r.st cs' cells'.toList ∧ ∀ v ∈ cells'.toList, v.oneCell' = true
  | [], [], cells, cs, cs', _, h, h1, hf => by
    simp only [fillC, Option.some.injEq] at hf
    subst hf
    exact ⟨cells, rfl, h, h1⟩
  | (i, x) :: ps, (off, sz, y) :: qs, cells, cs, cs', hp, h, h1, hf => by
    simp only [okParts, Bool.and_eq_true, beq_iff_eq, decide_eq_true_eq] at hp
    obtain ⟨⟨⟨hpl, hsz⟩, hx⟩, hps⟩ := hp
    simp only [fillC] at hf
    split at hf
    · rename_i hc
      rw [Option.bind_eq_some_iff] at hf
      obtain ⟨cs1, ho, hf⟩ := hf
      obtain ⟨k1, k2⟩ := vrel_cells (F.get hx) hc.2 (by omega)
      have hcl := crels_length k1
      simp only [Array.length_toList] at hcl
      obtain ⟨o1, o2, _⟩ := over_some ho
      have hcs := crels_length h
      simp only [Array.length_toList] at hcs
      obtain ⟨f1, f2⟩ := fold_get' (a.eval x).cells cells off (by omega)
      have hnew := crels_over (us' := ((a.eval x).cells.zipIdx.foldl (fun cs (cj : Value × Nat) => cs.setIfInBounds (off + cj.2) cj.1) cells).toList) h k1 ho (by simpa using f1) (fun q => by simpa using f2 q)
      obtain ⟨cells', g1, g2, g3⟩ := fill_sound F ps qs _ cs1 cs' hps hnew (fun v hv => by
        obtain ⟨q, hq⟩ := List.mem_iff_getElem?.1 hv
        rw [Array.getElem?_toList, f2] at hq
        split at hq
        · exact h1 v (List.mem_of_getElem? (by rw [Array.getElem?_toList]; exact hq))
        · split at hq
          · exact k2 v (List.mem_of_getElem? hq)
          · exact h1 v (List.mem_of_getElem? (by rw [Array.getElem?_toList]; exact hq))) hf
      refine ⟨cells', ?_, g2, g3⟩
      simp only [List.map_cons, Instr.fill, hpl]
      rw [if_neg]
      · exact g1
      · simp only [Bool.or_eq_true, decide_eq_true_eq, not_or]
        constructor
        · simp; omega
        · omega
    · cases hf
  | [], _ :: _, _, _, _, hp, _, _, _ => by simp [okParts] at hp
  | _ :: _, [], _, _, _, hp, _, _, _ => by simp [okParts] at hp
end
end Go.A

/- Operations that make memory: values and slices out of parts, rows, maps. -/
namespace Go.A

def placesOf (P : Program) (t : TypeId) : Option (Nat → Option (Nat × Nat)) :=
  match P.underlying t with
  | some (.array _ e) => (P.info? e).map fun ie i => some (i * ie.size, ie.size)
  | some (.struct fields) => (fields.toList.mapM (fun f => (P.info? f.type).map fun i => (f.offset, i.size))).map fun places i => places.toArray[i]?
  | _ => none

section
variable {P : Program} {κ : List Tmp} {loc : List (Option Tmp)} {nt : Nat} {g : G} {w : World} {r r' : R} {a : Act} {o : Go.Oper} {d : D} {next : Act → World → Prop} {Q : Exit → Act → World → Prop}

theorem get_allocs (r : R) (os : List Ob) (x : X) : (r.allocs os).get x = r.get x := by cases x <;> rfl
theorem fillC_allocs (r : R) (os : List Ob) : ∀ (qs : List (Nat × Nat × X)) (cs : List C), fillC (r.allocs os) qs cs = fillC r qs cs
  | [], _ => rfl
  | (off, sz, x) :: qs, cs => by
    simp only [fillC, get_allocs]
    congr 1
    exact congrArg _ (funext fun c => fillC_allocs r os qs c)

theorem built_of {t : TypeId} {place : Nat → Option (Nat × Nat)} {zs : List Value} {ps : List (Nat × Value)} {cells : Array Value} (hz : zeroOf P t = some zs) (hp : placesOf P t = some place) (hf : Instr.fill place zs.toArray ps = some cells) : P.built t ps = some cells := by
  obtain ⟨i, z, h1, h2, h3⟩ := zeroOf_some hz
  subst h3
  unfold placesOf at hp
  unfold Program.built
  split at hp
  · rename_i n e hu
    rw [Option.map_eq_some_iff] at hp
    obtain ⟨ie, h4, rfl⟩ := hp
    simp only [h1, hu, h2, h4]
    simpa using hf
  · rename_i fs hu
    rw [Option.map_eq_some_iff] at hp
    obtain ⟨pl, h4, rfl⟩ := hp
    simp only [h1, hu, h2, h4]
    simpa using hf
  · cases hp

theorem bld_sound (R0 : Rel g w r.st) (L : Low r.base r.lim r.st) (F : Fr κ loc nt g w r a) {t : TypeId} {parts : Array (Nat × Operand)} {zs : List Value} {zero : List C} {fresh : List (Nat × Nat)} {place : Nat → Option (Nat × Nat)} {qs : List (Nat × Nat × X)}
    (ho : o.op = .build t parts) (hd : okD κ nt o.dst d = true) (hz : zeroOf P t = some zs) (hc : okCells zs zero = true) (hf : okFresh zs fresh = true) (hpl : placesOf P t = some place) (hp : okParts κ loc place parts.toList qs = true)
    {r1 : R} (h : (fillC r qs (ticket r.st.length fresh zero)).map (abld r d fresh) = some r1) (k : Then κ (locOf o.dst d :: loc) nt g w r r1 (a.put o.dst) next) : o.wp P a w next Q := by
  rw [Option.map_eq_some_iff] at h
  obtain ⟨cs', h, rfl⟩ := h
  obtain ⟨hz1, hz2⟩ := okCells_sound (g := g) (w := w) (σ := r.st) hc
  obtain ⟨g1, H1, R1, hcr⟩ := tickets fresh R0 hf hz1
  have F1 : Fr κ loc nt g1 w (r.allocs (tokens fresh)) a := F.ext H1 rfl rfl
  obtain ⟨cells, k1, k2, _⟩ := fill_sound (place := place) F1 parts.toList qs zs.toArray _ cs' hp (show crels g1 w (r.st ++ tokens fresh) _ zs from hcr) (by simpa using hz2) (by rw [fillC_allocs]; exact h)
  have hb := built_of hz hpl k1
  refine eff_then (r1 := r.allocs (tokens fresh)) F hd H1 R1 (L.append _) rfl rfl (u := .agg cells) ?_ ?_ k
  · unfold execOp
    have hb' : P.built t (parts.map fun (i, x) => (i, a.eval x)).toList = some cells := by simpa using hb
    simp only [ho, Sem.run_bind, run_build w t _ cells hb', Result.andThen_ok, Sem.run_pure]
  · simp only [vrel]
    exact ⟨cells, rfl, k2⟩

/-! ### Rows -/
theorem made_rows {σ : Store} {zc : Array Value} {sz : Nat} {es : List (List C)} (hs : zc.size = sz) (h0 : 0 < sz) (h : ∀ e ∈ es, crels g w σ e zc.toList) (h1 : ∀ u ∈ zc.toList, u.oneCell' = true) : rowRel g w σ ((Array.range (es.length * sz)).map (zc[· % zc.size]!)) sz es := fun i e hi => by
  have hcr := h e (List.mem_of_getElem? hi)
  have hl := crels_length hcr
  simp only [Array.length_toList, hs] at hl
  refine ⟨hl.symm, fun j c hc => ?_⟩
  obtain ⟨u, k1, k2⟩ := crels_get hcr hc
  have hj : j < sz := by have := lt_of_some hc; omega
  refine ⟨u, ?_, k2, h1 u (List.mem_of_getElem? k1)⟩
  have hlt := inside (lt_of_some hi) hj
  rw [Array.getElem?_map, Array.getElem?_eq_getElem (by simpa using hlt)]
  simp only [Array.getElem_range, Option.map_some]
  have hmod : (i * sz + j) % zc.size = j := by rw [hs, Nat.mul_comm, Nat.mul_add_mod, Nat.mod_eq_of_lt hj]
  rw [hmod]
  rw [Array.getElem?_toList] at k1
  rw [getElem!_pos zc j (by omega)]
  rw [Array.getElem?_eq_getElem (by omega)] at k1
  exact k1

def okPartsS (κ : List Tmp) (loc : List (Option Tmp)) : List (Nat × Operand) → List (Nat × X) → Bool
  | [], [] => true
  | (i, x) :: ps, (j, y) :: qs => (i == j) && okX κ loc x y && okPartsS κ loc ps qs
  | _, _ => false

theorem fillS_sound (F : Fr κ loc nt g w r a) {sz : Nat} (h0 : 0 < sz) : ∀ (ps : List (Nat × Operand)) (qs : List (Nat × X)) (cells : Array Value) (es es' : List (List C)), okPartsS κ loc ps qs = true → cells.size = es.length * sz → rowRel g w r.st cells sz es →
    fillS r sz qs es = some es' → ∃ cells', Instr.fill (fun i => some (i * sz, sz)) cells (ps.map fun p => (p.1, a.eval p.2)) = some cells' ∧ cells'.size = es'.length * sz ∧ rowRel g w r.st cells' sz es' ∧ es'.length = es.length
  | [], [], cells, es, es', _, hs, h, hf => by
    simp only [fillS, Option.some.injEq] at hf
    subst hf
    exact ⟨cells, rfl, hs, h, rfl⟩
  | (i, x) :: ps, (j, y) :: qs, cells, es, es', hp, hs, h, hf => by
    simp only [okPartsS, Bool.and_eq_true, beq_iff_eq] at hp
    obtain ⟨⟨rfl, hx⟩, hps⟩ := hp
    simp only [fillS] at hf
    split at hf
    · rename_i hc
      obtain ⟨c1, c2, c3⟩ := hc
      obtain ⟨k1, k2⟩ := vrel_cells (F.get hx) c3 (by omega)
      have hcl := crels_length k1
      simp only [Array.length_toList] at hcl
      have hfit := inside' (q := sz) c1 (Nat.le_refl sz)
      obtain ⟨f1, f2⟩ := fold_get' (a.eval x).cells cells (i * sz) (by omega)
      obtain ⟨cells', g1, g2, g3, g4⟩ := fillS_sound F h0 ps qs _ _ es' hps (by rw [f1, hs]; simp) (fun i' e hi' => by
        rw [List.getElem?_set] at hi'
        by_cases e1 : i = i'
        · subst e1
          simp [c1] at hi'
          subst hi'
          refine ⟨c2, fun j c hj => ?_⟩
          obtain ⟨u, m1, m2⟩ := crels_get k1 hj
          have hlt := lt_of_some hj
          refine ⟨u, ?_, m2, k2 u (List.mem_of_getElem? m1)⟩
          rw [f2, if_neg (by omega), if_pos (by omega), Nat.add_sub_cancel_left]
          exact m1
        · rw [if_neg e1] at hi'
          obtain ⟨m0, m1⟩ := h i' e hi'
          refine ⟨m0, fun j c hj => ?_⟩
          obtain ⟨u, m2, m3, m4⟩ := m1 j c hj
          have hlt := lt_of_some hj
          refine ⟨u, ?_, m3, m4⟩
          rw [f2]
          split
          · exact m2
          · split
            · exfalso
              have := apart (q := i' * sz + j - i * sz) (sz := sz) e1 (by omega : j < sz) (by omega)
              omega
            · exact m2) hf
      refine ⟨cells', ?_, g2, g3, by rw [g4]; simp⟩
      simp only [List.map_cons, Instr.fill]
      rw [if_neg]
      · exact g1
      · simp only [Bool.or_eq_true, decide_eq_true_eq, not_or]
        constructor
        · simp; omega
        · omega
    · cases hf
  | [], _ :: _, _, _, _, hp, _, _, _ => by simp [okPartsS] at hp
  | _ :: _, [], _, _, _, hp, _, _, _ => by simp [okPartsS] at hp

/-! ### Freezing cells -/
theorem frzC_sound {σ : Store} {c : C} {x : Fz} {u : Value} (h : frzC c = some x) (hc : crel g w σ c u) : rep w g.N x u := by
  unfold frzC at h
  split at h
  · injection h with h; subst h; simpa only [crel] using hc
  · injection h with h; subst h; simp only [crel] at hc; exact hc.1
  · cases h
theorem ocons_some {α : Type} {x : Option α} {xs : Option (List α)} {ys : List α} (h : ocons x xs = some ys) : ∃ y z, x = some y ∧ xs = some z ∧ ys = y :: z := by
  unfold ocons at h
  split at h
  · injection h with h; exact ⟨_, _, rfl, rfl, h.symm⟩
  · cases h
theorem frzRow_get : ∀ {cs : List C} {xs : List Fz}, frzRow cs = some xs → xs.length = cs.length ∧ ∀ (j : Nat) (x : Fz), xs[j]? = some x → ∃ c, cs[j]? = some c ∧ frzC c = some x
  | [], xs, h => by
    simp only [frzRow, Option.some.injEq] at h
    subst h
    exact ⟨rfl, fun j x hx => by simp at hx⟩
  | c :: cs, xs, h => by
    simp only [frzRow] at h
    obtain ⟨y, z, h1, h2, rfl⟩ := ocons_some h
    obtain ⟨l, ih⟩ := frzRow_get h2
    refine ⟨by simp [l], fun j x hx => ?_⟩
    cases j with
    | zero => simp at hx; subst hx; exact ⟨c, by simp, h1⟩
    | succ j => simpa using ih j x (by simpa using hx)
theorem frzRows_get : ∀ {es : List (List C)} {xs : List (List Fz)}, frzRows es = some xs → xs.length = es.length ∧ ∀ (i : Nat) (x : List Fz), xs[i]? = some x → ∃ e, es[i]? = some e ∧ frzRow e = some x
  | [], xs, h => by
    simp only [frzRows, Option.some.injEq] at h
    subst h
    exact ⟨rfl, fun j x hx => by simp at hx⟩
  | c :: cs, xs, h => by
    simp only [frzRows] at h
    obtain ⟨y, z, h1, h2, rfl⟩ := ocons_some h
    obtain ⟨l, ih⟩ := frzRows_get h2
    refine ⟨by simp [l], fun j x hx => ?_⟩
    cases j with
    | zero => simp at hx; subst hx; exact ⟨c, by simp, h1⟩
    | succ j => simpa using ih j x (by simpa using hx)
theorem lay_of_rows {σ : Store} {arr : Array Value} {sz : Nat} {es : List (List C)} {xs : List (List Fz)} (hs : arr.size = es.length * sz) (h : rowRel g w σ arr sz es) (hf : frzRows es = some xs) : Lay w g.N sz xs arr.toList := by
  obtain ⟨l, hg⟩ := frzRows_get hf
  refine ⟨by simp [hs, l], lenAll_of fun e he => ?_, fun i e hi j x hj => ?_⟩
  · obtain ⟨i, hi⟩ := List.mem_iff_getElem?.1 he
    obtain ⟨e', h1, h2⟩ := hg i e hi
    rw [(frzRow_get h2).1]
    exact (h i e' h1).1
  · obtain ⟨e', h1, h2⟩ := hg i e hi
    obtain ⟨c, h3, h4⟩ := (frzRow_get h2).2 j x hj
    obtain ⟨u, m1, m2, m3⟩ := (h i e' h1).2 j c h3
    exact ⟨u, by simpa using m1, frzC_sound h4 m2, m3⟩
theorem rowRel_of_lay {σ : Store} {sz : Nat} {xs : List (List Fz)} {us : List Value} (h : Lay w g.N sz xs us) : rowRel g w σ us.toArray sz (xs.map fun e => e.map C.f) := fun i e hi => by
  rw [List.getElem?_map, Option.map_eq_some_iff] at hi
  obtain ⟨x, hx, rfl⟩ := hi
  refine ⟨by simpa using lenAll_get h.2.1 hx, fun j c hc => ?_⟩
  rw [List.getElem?_map, Option.map_eq_some_iff] at hc
  obtain ⟨y, hy, rfl⟩ := hc
  obtain ⟨u, k1, k2, k3⟩ := h.2.2 i x hx j y hy
  exact ⟨u, by simpa using k1, by simpa only [crel] using k2, k3⟩

def okZeros (zs : List Value) (zero : List (List C)) : Bool := zero.all fun e => okCells zs e

theorem bsl_sound (R0 : Rel g w r.st) (L : Low r.base r.lim r.st) (F : Fr κ loc nt g w r a) {t e : TypeId} {len sz : Nat} {parts : Array (Nat × Operand)} {zs : List Value} {zero : List (List C)} {qs : List (Nat × X)} {b : B}
    (ho : o.op = .buildSlice t len parts) (hd : okD κ nt o.dst d = true) (ht : P.underlying t = some (.slice e)) (hs : szOf P e = some sz) (h0 : 0 < sz) (hlen : zero.length = len) (hcap : len * sz ≤ 16777216) (hz : zeroOf P e = some zs) (hzs : zs.length = sz) (hone : zs.all Value.oneCell' = true) (hc : okZeros zs zero = true) (hp : okPartsS κ loc parts.toList qs = true)
    {r1 : R} (h : (fillS r sz qs zero).bind (absl r d sz b) = some r1) (k : Then κ (locOf o.dst d :: loc) nt g w r r1 (a.put o.dst) next) : o.wp P a w next Q := by
  subst hlen
  rw [Option.bind_eq_some_iff] at h
  obtain ⟨es', h, hfr⟩ := h
  obtain ⟨i, z, h1, h2, h3⟩ := zeroOf_some hz
  subst h3
  have hzc : z.cells.size = sz := by simpa using hzs
  have hz1 : ∀ u ∈ z.cells.toList, u.oneCell' = true := fun u hu => List.all_eq_true.1 hone u hu
  have hrows := made_rows (g := g) (w := w) (σ := r.st) (zc := z.cells) (es := zero) hzc h0 (fun e he => (okCells_sound (List.all_eq_true.1 hc e he)).1) hz1
  obtain ⟨cells, k1, k2, k3, k4⟩ := fillS_sound F h0 parts.toList qs _ zero es' hp (by simp) hrows h
  have hn : es'.length = zero.length := k4
  have hrun : (execOp a.eval o).run P w = .ok (.value (.slice (some ⟨w.heap.size, 0, none⟩) es'.length es'.length)) (w.alloc (.cells cells e)) := by
    unfold szOf at hs
    have hsz : i.size = sz := by simpa [h1] using hs
    have hcap' : ¬ (16777216 < zero.length * sz) := by omega
    have k1' : Instr.fill (fun i => some (i * sz, sz)) ((Array.range (zero.length * sz)).map (z.cells[· % z.cells.size]!)) (parts.map fun (i, x) => (i, a.eval x)).toList = some cells := by simpa using k1
    unfold execOp
    simp only [ho]
    by_cases hl0 : zero.length = 0
    · have hz' : (Array.range (zero.length * sz)).map (z.cells[· % z.cells.size]!) = (Array.range (zero.length * sz)).map ((#[] : Array Value)[· % (#[] : Array Value).size]!) := by simp [hl0, Array.range_zero']
      rw [hz'] at k1'
      simp [Instr.buildSlice, run_underlying ht, sizeOf, typeInfo, h1, hsz, hl0, newRow, hn]
      simp [hl0] at k1'
      simp [k1']
    · have hne : ¬ (zero.length * sz = 0) := Nat.mul_ne_zero hl0 (by omega)
      simp [Instr.buildSlice, run_underlying ht, sizeOf, typeInfo, h1, hsz, hcap', hne, run_zeroValue (w := w) h1 h2, newRow, hn]
      simp at k1'
      simp [k1']
  have hca : cells = cells.toList.toArray := by simp
  rw [hca] at hrun
  cases b with
  | fz =>
    simp only [absl, Option.map_eq_some_iff] at hfr
    obtain ⟨xs, hfr, rfl⟩ := hfr
    have hlay := lay_of_rows k2 k3 hfr
    rw [← (frzRows_get hfr).1] at hrun
    obtain ⟨g', H, R1, hv⟩ := alloc_fz R0 e hlay
    exact eff_then (r1 := r) F hd H R1 L rfl rfl hrun hv k
  | tk =>
    simp only [absl, Option.map_eq_some_iff] at hfr
    obtain ⟨xs, hfr, rfl⟩ := hfr
    have hlay := lay_of_rows k2 k3 hfr
    rw [← (frzRows_get hfr).1] at hrun
    obtain ⟨g', H, R1, hv⟩ := alloc_tok R0 e hlay
    exact eff_then (r1 := r.alloc (.tok sz [xs.length])) F hd H R1 (L.append _) rfl rfl hrun hv k
  | rw =>
    simp only [absl, Option.some.injEq] at hfr
    subst hfr
    obtain ⟨H, R1⟩ := alloc_rows (sz := sz) (es := es') R0 e (us := cells.toList) (by simpa using k2) (by simpa using k3)
    have hv := own_alloc (g := g) (w := w) (σ := r.st) (sz := sz) (es := es') (us := cells.toList) e (by simpa using k2)
    exact eff_then (r1 := r.alloc (.cells 0 sz es')) F hd H R1 (L.append _) rfl rfl hrun hv k
end
end Go.A

/- Operations that make memory: slices without a place, rows, maps; appends. -/
namespace Go.A
section
variable {P : Program} {κ : List Tmp} {loc : List (Option Tmp)} {nt : Nat} {g : G} {w : World} {r r' : R} {a : Act} {o : Go.Oper} {d : D} {next : Act → World → Prop} {Q : Exit → Act → World → Prop}

theorem ap_new {σ : Store} {sz : Nat} {f : Nat → Value} (fr : List Nat) {k : Nat} (hk : fr[k]? = some 0) (hf : f k = .slice none 0 0) : crel (g.nils σ.length f) w (σ ++ [.tok sz fr]) (.ap σ.length k []) (.slice none 0 0) := by
  rw [crel]
  exact ⟨crel_nil, 0, frOf_of (sz := sz) (fr := fr) (by simp) hk, Nat.le_refl _, fun _ => by rw [G.nils_tv, hf], sz, tokSz_of (fr := fr) (by simp), by simp only [lenAll]⟩

theorem nl_sound (R0 : Rel g w r.st) (L : Low r.base r.lim r.st) (F : Fr κ loc nt g w r a) {b : B} {sz : Nat} (ho : o.op = .move (.const (.slice none 0 0)) ∨ o.op = .assign (.const (.slice none 0 0))) (hd : okD κ nt o.dst d = true)
    {r1 : R} (h : anl r d sz b = some r1) (k : Then κ (locOf o.dst d :: loc) nt g w r r1 (a.put o.dst) next) : o.wp P a w next Q := by
  have hrun := mv_sound (P := P) (w := w) (a := a) ho
  cases b with
  | fz =>
    simp only [anl, Option.some.injEq] at h
    subst h
    exact pure_then R0 L F hd hrun (by simpa only [vsl, vrel, crel, Act.eval] using crel_nil) k
  | tk =>
    simp only [anl, Option.some.injEq] at h
    subst h
    obtain ⟨H, R1⟩ := add_tok R0 sz [0] (fun _ => .slice none 0 0) (fun k n hn => ⟨by
      cases k with
      | zero => simp at hn; exact hn.symm
      | succ k => simp at hn, none, rfl⟩)
    exact eff_then (r1 := r.alloc (.tok sz [0])) F hd H R1 (L.append _) rfl rfl hrun (by simp only [vrel]; exact ap_new (sz := sz) [0] (by simp) rfl) k
  | rw =>
    simp only [anl, Option.some.injEq] at h
    subst h
    obtain ⟨H, R1⟩ := add_row0 R0 sz
    refine eff_then (r1 := r.alloc (.cells 0 sz [])) F hd H R1 (L.append _) rfl rfl hrun ?_ k
    simp only [vrel, crel, Act.eval]
    exact ⟨0, sz, 0, shapeOf_of (get_last _ _), Nat.le_refl _, fun _ => ⟨none, 0, rfl, Nat.le_refl _, fun _ => rfl, fun h => absurd rfl h⟩, _, _, rfl⟩

theorem run_make' {t e : TypeId} {i : TypeInfo} {z : Value} (ht : P.underlying t = some (.slice e)) (hi : P.info? e = some i) (hz : i.zero = some z) {kk : IntKind} {k : Int} (h0 : 0 ≤ k) (hk : k ≤ LIM) (hb : i.bytes ≤ 32768) :
    (Instr.makeSlice t (.int kk k) (.int kk k)).run P w = .ok (.slice (some ⟨w.heap.size, 0, none⟩) k.toNat k.toNat) (w.alloc (.cells (madeCells z.cells (k.toNat * i.size)) e)) := by
  unfold LIM at hk
  refine run_make w t e i z ht hi hz kk kk k k h0 (Int.le_refl _) ?_ (by omega)
  have h1 : (i.bytes : Int) * k ≤ 32768 * k := Int.mul_le_mul_of_nonneg_right (by omega) h0
  omega

theorem mks_sound (R0 : Rel g w r.st) (L : Low r.base r.lim r.st) (F : Fr κ loc nt g w r a) {t e : TypeId} {x : Operand} {sz : Nat} {i : TypeInfo} {zs : List Value} {zero : List C} {fresh : Option (Nat × Nat)}
    (ho : o.op = .makeSlice t x x) (hd : okD κ nt o.dst d = true) (ht : P.underlying t = some (.slice e)) (hi : P.info? e = some i) (hb : i.bytes ≤ 32768) (hs : i.size = sz) (h0 : 0 < sz) (hz : zeroOf P e = some zs) (hzs : zs.length = sz) (hc : okCells zs zero = true)
    (hf : ∀ j, fresh = some j → zs[j.1]? = some (.slice none 0 0)) {vx : V} (hx : vrel g w r.st vx (a.eval x)) {r1 : R} (h : amks r d zero fresh vx = some r1) (k : Then κ (locOf o.dst d :: loc) nt g w r r1 (a.put o.dst) next) : o.wp P a w next Q := by
  obtain ⟨i', z, h1, h2, h3⟩ := zeroOf_some hz
  rw [hi] at h1
  injection h1 with h1
  subst h1
  subst h3
  have hzc : z.cells.size = sz := by simpa using hzs
  obtain ⟨hz1, hz2⟩ := okCells_sound (g := g) (w := w) (σ := r.st) hc
  have hzl : zero.length = sz := by rw [← crels_length hz1]; exact hzs
  have hrun : ∀ kk m, a.eval x = .int kk m → 0 ≤ m → m ≤ LIM → (execOp a.eval o).run P w = .ok (.value (.slice (some ⟨w.heap.size, 0, none⟩) m.toNat m.toNat)) (w.alloc (.cells (madeCells z.cells (m.toNat * sz)).toList.toArray e)) := fun kk m ex m0 m1 => by
    unfold execOp
    simp only [ho, ex, Sem.run_bind, run_make' (P := P) (w := w) ht hi h2 m0 m1 hb, Result.andThen_ok, Sem.run_pure, hs]
  unfold amks at h
  split at h
  · rename_i kk m
    obtain ⟨ex, _⟩ := vrel_lit hx
    split at h
    · rename_i hm
      injection h with h
      subst h
      rw [hzl] at k
      have hlen : (List.replicate m.toNat zero).length = m.toNat := by simp
      have hl : (madeCells z.cells (m.toNat * sz)).toList.length = (List.replicate m.toNat zero).length * sz := by simp [size_madeCells]
      have hrow : rowRel g w r.st (madeCells z.cells (m.toNat * sz)).toList.toArray sz (List.replicate m.toNat zero) := by
        have := made_rows (g := g) (w := w) (σ := r.st) (es := List.replicate m.toNat zero) hzc h0 (fun e he => by rw [(List.mem_replicate.1 he).2]; exact hz1) hz2
        rw [hlen] at this
        rw [Array.toArray_toList]
        exact this
      obtain ⟨H, R1⟩ := alloc_rows R0 e hl hrow
      have hv := own_alloc (g := g) (w := w) (σ := r.st) e hl
      rw [hlen] at hv
      exact eff_then (r1 := r.alloc (.cells 0 sz (List.replicate m.toNat zero))) F hd H R1 (L.append _) rfl rfl (hrun kk m ex hm.1 hm.2) hv k
    · cases h
  · rename_i j kk m
    obtain ⟨ex, _⟩ := vrel_lit hx
    split at h
    · rename_i hm
      injection h with h
      subst h
      rw [hzl] at k
      obtain ⟨H1, R1⟩ := add_tok R0 j.2 (List.replicate m.toNat 0) (fun _ => .slice none 0 0) (fun q n hn => ⟨(List.mem_replicate.1 (List.mem_of_getElem? hn)).2, none, rfl⟩)
      have hlen : ((List.range m.toNat).map (nest r.st.length zero j.1)).length = m.toNat := by simp
      have hl : (madeCells z.cells (m.toNat * sz)).toList.length = ((List.range m.toNat).map (nest r.st.length zero j.1)).length * sz := by simp [size_madeCells]
      have hrow : rowRel (g.nils r.st.length fun _ => .slice none 0 0) w (r.st ++ [.tok j.2 (List.replicate m.toNat 0)]) (madeCells z.cells (m.toNat * sz)).toList.toArray sz ((List.range m.toNat).map (nest r.st.length zero j.1)) := by
        have := made_rows (g := g.nils r.st.length fun _ => .slice none 0 0) (w := w) (σ := r.st ++ [.tok j.2 (List.replicate m.toNat 0)]) (es := (List.range m.toNat).map (nest r.st.length zero j.1)) hzc h0 (fun e he => by
          obtain ⟨q, hq, rfl⟩ := List.mem_map.1 he
          rw [List.mem_range] at hq
          exact crels_set (H1.crels _ _ hz1) (hf j rfl) (ap_new _ (by simp [List.getElem?_replicate, hq]) rfl)) hz2
        rw [hlen] at this
        rw [Array.toArray_toList]
        exact this
      obtain ⟨H, R2⟩ := alloc_rows R1 e hl hrow
      have hv := own_alloc (g := g.nils r.st.length fun _ => .slice none 0 0) (w := w) (σ := r.st ++ [.tok j.2 (List.replicate m.toNat 0)]) e hl
      rw [hlen] at hv
      refine eff_then (r1 := r.allocs [.tok j.2 (List.replicate m.toNat 0), .cells 0 sz ((List.range m.toNat).map (nest r.st.length zero j.1))]) F hd (H1.trans (by simpa [R.allocs] using H)) (by simpa [R.allocs] using R2) (L.append _) rfl rfl (hrun kk m ex hm.1 hm.2) (by simpa [R.allocs] using hv) k
    · cases h
  · cases h

/-- Many rows without elements. -/
theorem add_rows0 {σ : Store} (R : Rel g w σ) (sz : Nat) : ∀ n : Nat, ∃ g', Ext g w σ g' w (σ ++ List.replicate n (.cells 0 sz [])) ∧ Rel g' w (σ ++ List.replicate n (.cells 0 sz []))
  | 0 => ⟨g, by simpa using Ext.refl g w σ, by simpa using R⟩
  | n + 1 => by
    obtain ⟨g1, H1, R1⟩ := add_rows0 R sz n
    obtain ⟨H2, R2⟩ := add_row0 R1 sz
    refine ⟨_, H1.trans (by simpa [List.replicate_succ'] using H2), by simpa [List.replicate_succ'] using R2⟩
theorem mkr_sound (R0 : Rel g w r.st) (L : Low r.base r.lim r.st) (F : Fr κ loc nt g w r a) {t e : TypeId} {x : Operand} {sz szi : Nat} {i : TypeInfo} {zs : List Value} {zero : List C} {j : Nat}
    (ho : o.op = .makeSlice t x x) (hd : okD κ nt o.dst d = true) (ht : P.underlying t = some (.slice e)) (hi : P.info? e = some i) (hb : i.bytes ≤ 32768) (hs : i.size = sz) (h0 : 0 < sz) (hz : zeroOf P e = some zs) (hzs : zs.length = sz) (hc : okCells zs zero = true)
    (hf : zs[j]? = some (.slice none 0 0)) {vx : V} (hx : vrel g w r.st vx (a.eval x)) {r1 : R} (h : amkr r d zero j szi vx = some r1) (k : Then κ (locOf o.dst d :: loc) nt g w r r1 (a.put o.dst) next) : o.wp P a w next Q := by
  obtain ⟨i', z, h1, h2, h3⟩ := zeroOf_some hz
  rw [hi] at h1
  injection h1 with h1
  subst h1
  subst h3
  have hzc : z.cells.size = sz := by simpa using hzs
  obtain ⟨hz1, hz2⟩ := okCells_sound (g := g) (w := w) (σ := r.st) hc
  have hzl : zero.length = sz := by rw [← crels_length hz1]; exact hzs
  have hrun : ∀ kk m, a.eval x = .int kk m → 0 ≤ m → m ≤ LIM → (execOp a.eval o).run P w = .ok (.value (.slice (some ⟨w.heap.size, 0, none⟩) m.toNat m.toNat)) (w.alloc (.cells (madeCells z.cells (m.toNat * sz)).toList.toArray e)) := fun kk m ex m0 m1 => by
    unfold execOp
    simp only [ho, ex, Sem.run_bind, run_make' (P := P) (w := w) ht hi h2 m0 m1 hb, Result.andThen_ok, Sem.run_pure, hs]
  unfold amkr at h
  split at h
  · rename_i kk m
    obtain ⟨ex, _⟩ := vrel_lit hx
    split at h
    · rename_i hm
      injection h with h
      subst h
      rw [hzl] at k
      obtain ⟨g1, H1, R1⟩ := add_rows0 R0 szi m.toNat
      have hlen : ((List.range m.toNat).map (nestR r.st.length zero j)).length = m.toNat := by simp
      have hl : (madeCells z.cells (m.toNat * sz)).toList.length = ((List.range m.toNat).map (nestR r.st.length zero j)).length * sz := by simp [size_madeCells]
      have hrow : rowRel g1 w (r.st ++ List.replicate m.toNat (.cells 0 szi [])) (madeCells z.cells (m.toNat * sz)).toList.toArray sz ((List.range m.toNat).map (nestR r.st.length zero j)) := by
        have := made_rows (g := g1) (w := w) (σ := r.st ++ List.replicate m.toNat (.cells 0 szi [])) (es := (List.range m.toNat).map (nestR r.st.length zero j)) hzc h0 (fun e he => by
          obtain ⟨q, hq, rfl⟩ := List.mem_map.1 he
          rw [List.mem_range] at hq
          exact crels_set (H1.crels _ _ hz1) hf (own_nil hq g1)) hz2
        rw [hlen] at this
        rw [Array.toArray_toList]
        exact this
      obtain ⟨H, R2⟩ := alloc_rows R1 e hl hrow
      have hv := own_alloc (g := g1) (w := w) (σ := r.st ++ List.replicate m.toNat (.cells 0 szi [])) e hl
      rw [hlen] at hv
      have hll : (r.st ++ List.replicate m.toNat (Ob.cells 0 szi [])).length = r.st.length + m.toNat := by simp
      rw [hll] at hv
      refine eff_then (r1 := r.allocs (List.replicate m.toNat (.cells 0 szi []) ++ [.cells 0 sz ((List.range m.toNat).map (nestR r.st.length zero j))])) F hd (H1.trans (by simpa [R.allocs] using H)) (by simpa [R.allocs] using R2) (L.append _) rfl rfl (hrun kk m ex hm.1 hm.2) (by simpa [R.allocs] using hv) k
    · cases h
  · cases h

theorem mkm_sound (R0 : Rel g w r.st) (L : Low r.base r.lim r.st) (F : Fr κ loc nt g w r a) {t : TypeId} (ho : o.op = .makeMap t none) (hd : okD κ nt o.dst d = true)
    (k : Then κ (locOf o.dst d :: loc) nt g w r ((r.alloc (.mp [])).put d (.one (.map r.st.length))) (a.put o.dst) next) : o.wp P a w next Q := by
  obtain ⟨H, R1⟩ := alloc_own R0 (.mp []) (.map #[] 0) fun H h1 h2 h3 => ⟨by rw [h1]; exact h2, by rw [h1]; exact h3, #[], 0, by rw [h1]; exact heap_alloc_at w _, ⟨[], .nil, by simp, rfl⟩, by simp, by simp⟩
  refine eff_then (r1 := r.alloc (.mp [])) F hd H R1 (L.append _) rfl rfl (u := .map (some w.heap.size)) ?_ ?_ k
  · unfold execOp
    simp [ho, Instr.makeMap]
  · simp only [vrel, crel]
    exact ⟨⟨[], get_last _ _⟩, by simp [G.own]⟩

theorem alloc_room {σ : Store} (R0 : Rel g w σ) {sz c : Nat} {cur : Array Value} (t : TypeId) (hs : cur.size = c * sz) :
    ∃ g', Ext g w σ g' (w.alloc (.cells cur t)) (σ ++ [.tok sz [0]]) ∧ Rel g' (w.alloc (.cells cur t)) (σ ++ [.tok sz [0]]) ∧
      vrel g' (w.alloc (.cells cur t)) (σ ++ [.tok sz [0]]) (.one (.ap σ.length 0 [])) (.slice (some ⟨w.heap.size, 0, none⟩) 0 c) := by
  let g' : G := { g with tv := fun t' k => if t' = σ.length then .slice (some ⟨w.heap.size, 0, none⟩) 0 c else g.tv t' k, ow := put1 g.ow w.heap.size (.tk σ.length 0) }
  have how : ∀ b, b < w.heap.size → g'.ow b = g.ow b := fun b hb => put1_ne g.ow (k := w.heap.size) (i := b) _ (by omega)
  have htv : ∀ t' k, t' < σ.length → g'.tv t' k = g.tv t' k := fun t' k h => by
    show (if t' = σ.length then _ else g.tv t' k) = _
    rw [if_neg (by omega)]
  have htv' : ∀ k, g'.tv σ.length k = .slice (some ⟨w.heap.size, 0, none⟩) 0 c := fun k => by
    show (if σ.length = σ.length then _ else _) = _
    rw [if_pos rfl]
  have H : Ext g w σ g' (w.alloc (.cells cur t)) (σ ++ [.tok sz [0]]) :=
    Ext.alloc R0 _ g' (fun _ _ => rfl) (fun t' k n h => htv t' k (by obtain ⟨_, _, h1, _⟩ := frOf_some h; exact lt_of_some h1)) how (fun _ _ _ => Iff.rfl) _
  have hat := heap_alloc_at w (.cells cur t)
  refine ⟨g', H, ⟨fun b o h => ?_, fun id o h => ?_⟩, ?_⟩
  · rw [size_alloc]
    have := R0.nb b o h
    omega
  · by_cases hlt : id < σ.length
    · rw [List.getElem?_append_left hlt] at h
      exact orel_keep H rfl (fun k => htv id k hlt) (fun b hb _ => ⟨heap_alloc_old w _ hb, how b hb, fun _ h => h⟩) (R0.ob id o h)
    · have hid : id = σ.length := by
        have := lt_of_some h
        simp at this
        omega
      subst hid
      simp at h
      subst h
      intro k n hn
      cases k with
      | succ k => simp at hn
      | zero =>
        simp at hn
        subst hn
        rw [htv']
        rcases Nat.eq_zero_or_pos c with h0 | h0
        · exact .inl ⟨rfl, _, by rw [h0]⟩
        · exact .inr ⟨_, _, _, cur, t, rfl, h0, Nat.zero_le _, put1_same _ _ _, hat, by simp [hs], fun o' ho' => absurd (R0.nb _ _ ho') (Nat.lt_irrefl _)⟩
  · simp only [vrel, crel, rep]
    exact ⟨⟨_, c, sz, rfl, Nat.zero_le _, by simp only [lenAll], .inl trivial⟩, 0, frOf_of (sz := sz) (fr := [0]) (by simp) (by simp), Nat.le_refl _, fun _ => (htv' 0).symm, sz, tokSz_of (fr := [0]) (by simp), by simp only [lenAll]⟩

theorem mkc_sound (R0 : Rel g w r.st) (L : Low r.base r.lim r.st) (F : Fr κ loc nt g w r a) {t e : TypeId} {x : Operand} {kl : IntKind} {sz : Nat} {i : TypeInfo} {z : Value}
    (ho : o.op = .makeSlice t (.const (.int kl 0)) x) (hd : okD κ nt o.dst d = true) (ht : P.underlying t = some (.slice e)) (hi : P.info? e = some i) (hb : i.bytes ≤ 32768) (hs : i.size = sz) (hz : i.zero = some z)
    {vx : V} (hx : vrel g w r.st vx (a.eval x)) {r1 : R} (h : amkc r d sz vx = some r1) (k : Then κ (locOf o.dst d :: loc) nt g w r r1 (a.put o.dst) next) : o.wp P a w next Q := by
  unfold amkc at h
  split at h
  · rename_i kk m
    obtain ⟨ex, _⟩ := vrel_lit hx
    split at h
    · rename_i hm
      injection h with h
      subst h
      have hl : m ≤ LIM := hm.2
      unfold LIM at hl
      have hrun := run_make (P := P) w t e i z ht hi hz kl kk 0 m (Int.le_refl _) hm.1 (by
        have h1 : (i.bytes : Int) * m ≤ 32768 * m := Int.mul_le_mul_of_nonneg_right (by omega) hm.1
        omega) (by omega)
      simp only [Int.toNat_zero] at hrun
      obtain ⟨g', H, R1, hv⟩ := alloc_room (c := m.toNat) (sz := sz) (cur := madeCells z.cells (m.toNat * i.size)) R0 e (by rw [size_madeCells, hs])
      refine eff_then (r1 := r.alloc (.tok sz [0])) F hd H R1 (L.append _) rfl rfl ?_ hv k
      unfold execOp
      have e0 : a.eval (.const (.int kl 0)) = .int kl 0 := rfl
      simp only [ho, ex, e0, Sem.run_bind, hrun, Result.andThen_ok, Sem.run_pure]
    · cases h
  · cases h
end
end Go.A

/- Appends. -/
namespace Go.A
section
variable {P : Program} {κ : List Tmp} {loc : List (Option Tmp)} {nt : Nat} {g : G} {w : World} {r r' : R} {a : Act} {o : Go.Oper} {d : D} {next : Act → World → Prop} {Q : Exit → Act → World → Prop}

/-- Where the first cells of a slice stand. -/
def At (w : World) (b : Option Addr) (vs : List Value) : Prop := ∀ ad, b = some ad → ∀ j v, vs[j]? = some v → w.cell? (ad.add j) = some v

theorem run_append_grow' {t ty e : TypeId} {i : TypeInfo} {z : Value} (ht : P.underlying t = some (.slice e)) (hi : P.info? e = some i) (hz : i.zero = some z) {base a' : Option Addr} {sLen sCap n c : Nat} {olds news : List Value}
    (hlo : olds.length = sLen * i.size) (holds : At w base olds) (hb : base = none → sCap = 0) (hle : sLen ≤ sCap) (hl : news.length = n * i.size) (hnews : At w a' news) (ha : a' = none → n = 0)
    (hg : sCap < sLen + n) (hlim : sLen + n ≤ LIM) (hby : i.bytes ≤ 32768) :
    (Builtin.append_ #[t, t] ty #[.slice base sLen sCap, .slice a' n c]).run P w =
      .ok (.slice (some ⟨w.heap.size, 0, none⟩) (sLen + n) (grownCap w (sLen + n) sCap e)) (w.drew.alloc (.cells (olds.toArray ++ news.toArray ++ Builtin.zeroCells z.cells (grownCap w (sLen + n) sCap e - (sLen + n))) e)) := by
  unfold LIM at hlim
  have hbytes : (sLen + n) * i.bytes ≤ 140737488355328 := by
    have h1 : (sLen + n) * i.bytes ≤ 4294967296 * 32768 := Nat.mul_le_mul hlim hby
    omega
  cases a' with
  | none => have := ha rfl; omega
  | some ad =>
    cases base with
    | some b => exact run_append_grow w t ty e i z ht hi hz b sLen sCap olds hlo (holds b rfl) ad n c news hl (hnews ad rfl) hg (by omega) (growslice_fits hg hbytes)
    | none =>
      have h0 := hb rfl
      subst h0
      have h1 : sLen = 0 := by omega
      subst h1
      have h2 : olds = [] := List.eq_nil_of_length_eq_zero (by simpa using hlo)
      subst h2
      have := run_append_nil w t ty e i z ht hi hz ad n c news hl (hnews ad rfl) (by omega) (by omega) (by rw [Nat.zero_add] at hbytes; omega)
      simpa using this

theorem run_append_room' {t ty e : TypeId} {i : TypeInfo} (ht : P.underlying t = some (.slice e)) (hi : P.info? e = some i) {b off : Nat} {a' : Option Addr} {sLen sCap n c : Nat} {news : List Value} {cur : Array Value} {te : TypeId} (hh : w.heap[b]? = some (.cells cur te (0, 0)))
    (hl : news.length = n * i.size) (hnews : At w a' news) (ha : a' = none → n = 0) (h1 : ∀ u ∈ news, u.oneCell' = true) (hroom : sLen + n ≤ sCap) (hfit : off + sLen * i.size + news.length ≤ cur.size) :
    (Builtin.append_ #[t, t] ty #[.slice (some ⟨b, off, none⟩) sLen sCap, .slice a' n c]).run P w = .ok (.slice (some ⟨b, off, none⟩) (sLen + n) sCap) (w.setRow b (splice cur (off + sLen * i.size) news)) := by
  have hf : (Builtin.firstCells i.size n (.slice a' n c)).run P w = .ok news.toArray w := by
    cases a' with
    | none =>
      have := ha rfl
      subst this
      have h2 : news = [] := List.eq_nil_of_length_eq_zero (by simpa using hl)
      subst h2
      exact run_firstCells_none w _ _ _ _
    | some ad => exact run_firstCells_some w i.size n ad n c news hl (hnews ad rfl)
  have hst := run_storeCells_at P b (off + sLen * i.size) te news 0 cur w hh (by simpa using hfit) h1
  simp only [Nat.add_zero] at hst
  simp [Builtin.append_, run_underlying ht, sizeOf, typeInfo, hi, Builtin.lenOf, hroom, hf, Addr.add_lit, hst, splice]

theorem run_append_zero {t ty e : TypeId} {i : TypeInfo} (ht : P.underlying t = some (.slice e)) (hi : P.info? e = some i) {base a' : Option Addr} {c0 c : Nat} :
    (Builtin.append_ #[t, t] ty #[.slice base 0 c0, .slice a' 0 c]).run P w = .ok (.slice base 0 c0) w := by
  have hf : (Builtin.firstCells i.size 0 (.slice a' 0 c)).run P w = .ok #[] w := by
    cases a' with
    | none => exact run_firstCells_none w _ _ _ _
    | some ad => simpa using run_firstCells_some (P := P) w i.size 0 ad 0 c [] (by simp) (by simp)
  cases base <;> simp [Builtin.append_, run_underlying ht, sizeOf, typeInfo, hi, Builtin.lenOf, hf, storeCells]

theorem okSz_lenAll {sz : Nat} {xs : List (List Fz)} (h : okSz sz xs = true) : lenAll sz xs := lenAll_of (okSz_all h)

/-- The elements of what is appended. -/
theorem elems_sound (R0 : Rel g w r.st) {v : V} {u : Value} {ys : List (List Fz)} {sz : Nat} (hv : vrel g w r.st v u) (h : elems r.st v = some ys) (hsz : okSz sz ys = true) :
    ∃ a' c news, u = .slice a' ys.length c ∧ Lay w g.N sz ys news ∧ At w a' news ∧ (a' = none → ys.length = 0) := by
  have frz : rep w g.N (.sl ys) u → ∃ a' c news, u = .slice a' ys.length c ∧ Lay w g.N sz ys news ∧ At w a' news ∧ (a' = none → ys.length = 0) := fun hr => by
    obtain ⟨a', c, sz', us, e, _, hl, hc⟩ := lay_of_rep hr fun _ _ h => rep_one h
    rcases hc with rfl | ⟨b, oo, rfl, hc⟩
    · refine ⟨a', c, [], e, ⟨by simp, by simp only [lenAll], fun i e h => by simp at h⟩, fun ad _ j v h => by simp at h, fun _ => rfl⟩
    · refine ⟨_, c, us, e, ?_, fun ad e1 j v hj => ?_, fun h => by cases h⟩
      · cases ys with
        | nil => exact ⟨by simpa using hl.1, by simp only [lenAll], fun i e h => by simp at h⟩
        | cons y ys =>
          have e1 : sz' = sz := by rw [← lenAll_mem hl.2.1 y (by simp), okSz_all hsz y (by simp)]
          rwa [e1] at hl
      · injection e1 with e1
        subst e1
        rw [add_plain']
        exact hc j v hj
  unfold elems at h
  split at h
  · rename_i id ver lo n
    rw [Option.bind_eq_some_iff] at h
    obtain ⟨ob, h1, h2⟩ := h
    unfold Ob.frz at h2
    split at h2
    · rename_i ver' sz0 es
      split at h2
      · rename_i hver
        subst hver
        obtain ⟨a', c, e1, e2, e3, e4⟩ := vrel_own hv h1
        obtain ⟨hyl, hyg⟩ := frzRows_get h2
        by_cases hes : es = []
        · subst hes
          have := e3 rfl
          have hn : n = 0 := by omega
          subst hn
          simp at hyl
          subst hyl
          exact ⟨a', c, [], e1, ⟨by simp, by simp only [lenAll], fun i e h => by simp at h⟩, fun ad _ j v h => by simp at h, fun _ => rfl⟩
        · obtain ⟨f1, f2, arr, t, f3, f4⟩ := e4 fun h => hes (List.eq_nil_of_length_eq_zero h)
          obtain ⟨_, _, arr', t', m1, m2, m3⟩ := R0.ob id _ h1 hes
          rw [m1] at f3
          injection f3 with f3
          injection f3 with f3 _
          subst f3
          have hyn : ys.length = n := by rw [hyl]; simp; omega
          have hsub : ∀ i e, ((es.drop lo).take n)[i]? = some e → es[lo + i]? = some e := fun i e hi => by
            rw [List.getElem?_take] at hi
            split at hi
            · rwa [List.getElem?_drop] at hi
            · cases hi
          have hszz : ys ≠ [] → sz0 = sz := fun hne => by
            cases ys with
            | nil => exact absurd rfl hne
            | cons y ys =>
              obtain ⟨e, h3, h4⟩ := hyg 0 y (by simp)
              rw [← (m3 _ e (hsub 0 e h3)).1, ← (frzRow_get h4).1]
              exact okSz_all hsz y (by simp)
          refine ⟨a', c, (arr'.toList.drop (lo * sz0)).take (n * sz), by rw [hyn]; exact e1, ⟨?_, okSz_lenAll hsz, fun i y hi j x hj => ?_⟩, fun ad ead j v hj => ?_, fun ha => ?_⟩
          · rw [hyn, List.length_take, List.length_drop, Array.length_toList]
            by_cases hne : ys = []
            · have : n = 0 := by rw [← hyn, hne]; rfl
              simp [this]
            · have h5 := hszz hne
              subst h5
              have : (lo + n) * sz0 ≤ es.length * sz0 := Nat.mul_le_mul_right _ f1
              rw [Nat.add_mul] at this
              omega
          · have hne : ys ≠ [] := fun h => by subst h; simp at hi
            have h5 := hszz hne
            subst h5
            obtain ⟨e, h3, h4⟩ := hyg i y hi
            obtain ⟨cc, h6, h7⟩ := (frzRow_get h4).2 j x hj
            obtain ⟨h8, h9⟩ := m3 _ e (hsub i e h3)
            obtain ⟨u', q1, q2, q3⟩ := h9 j cc h6
            refine ⟨u', ?_, frzC_sound h7 q2, q3⟩
            have hi' := lt_of_some hi
            have hj' : j < sz0 := by have := lt_of_some h6; omega
            have hlt := inside (n := n) (by omega : i < n) hj'
            rw [List.getElem?_take, if_pos hlt, List.getElem?_drop, Array.getElem?_toList]
            rw [Nat.add_mul, Nat.add_assoc] at q1
            exact q1
          · have hlt := lt_of_some hj
            rw [List.getElem?_take] at hj
            split at hj
            · rw [List.getElem?_drop, Array.getElem?_toList] at hj
              have hn0 : n ≠ 0 := fun h0 => by subst h0; simp at hlt
              have hc0 : c ≠ 0 := by omega
              rw [f2 hc0] at ead
              injection ead with ead
              subst ead
              rw [add_plain', cell_at m1]
              exact hj
            · cases hj
          · rw [hyn]
            have : c = 0 := by
              rcases Nat.eq_zero_or_pos c with h0 | h0
              · exact h0
              · rw [f2 (by omega)] at ha; cases ha
            omega
      · cases h2
    · cases h2
  · injection h with h
    subst h
    exact frz (vrel_sl hv)
  · injection h with h
    subst h
    exact frz (vrel_ap hv)
  · cases h

theorem set_self {σ : Store} {t : Nat} {ob : Ob} (h : σ[t]? = some ob) : σ.set t ob = σ := by
  refine List.ext_getElem? fun i => ?_
  rw [get_set]
  split
  · rename_i hc; rw [← hc.1]; exact h.symm
  · rfl
theorem set_self' {fr : List Nat} {k n : Nat} (h : fr[k]? = some n) : fr.set k n = fr := by
  refine List.ext_getElem? fun i => ?_
  rw [List.getElem?_set]
  split
  · rename_i hc
    subst hc
    rw [if_pos (lt_of_some h)]
    exact h.symm
  · rfl

theorem front_some {sz k n : Nat} {ob : Ob} (h : ob.front sz k = some n) : ∃ fr, ob = .tok sz fr ∧ fr[k]? = some n := by
  unfold Ob.front at h
  split at h
  · split at h
    · rename_i e; subst e; exact ⟨_, rfl, h⟩
    · cases h
  · cases h

theorem lay_one {N : Cells} {sz : Nat} (h0 : 0 < sz) {ys : List (List Fz)} {news : List Value} (hlay : Lay w N sz ys news) : ∀ v ∈ news, v.oneCell' = true := fun v hv => by
  obtain ⟨q, hq⟩ := List.mem_iff_getElem?.1 hv
  have hlt := lt_of_some hq
  rw [hlay.1] at hlt
  have e1 : q / sz < ys.length := (Nat.div_lt_iff_lt_mul h0).2 hlt
  have e2 : q % sz < sz := Nat.mod_lt _ h0
  have e3 := lenAll_get hlay.2.1 (List.getElem?_eq_getElem e1)
  obtain ⟨u, k1, _, k3⟩ := hlay.2.2 _ _ (List.getElem?_eq_getElem e1) _ _ (List.getElem?_eq_getElem (by rw [e3]; exact e2))
  have e4 : q / sz * sz + q % sz = q := by rw [Nat.mul_comm]; exact Nat.div_add_mod q sz
  rw [e4, hq] at k1
  injection k1 with k1
  rw [k1]; exact k3

theorem app_tok (R0 : Rel g w r.st) (L : Low r.base r.lim r.st) (F : Fr κ loc nt g w r a) {t e : TypeId} {s x : Operand} {sz : Nat} {i : TypeInfo} {zs : List Value} {ct : Go.Call}
    (ho : o.op = .call ct) (hcal : ct.callee = .builtin .append) (hargs : ct.args = #[s, x]) (htys : ct.argTypes = #[t, t])
    (hd : okD κ nt o.dst d = true) (ht : P.underlying t = some (.slice e)) (hi : P.info? e = some i) (hb : i.bytes ≤ 32768) (hs : i.size = sz) (h0 : 0 < sz) (hz : zeroOf P e = some zs) (hzs : zs.length = sz)
    {tk k : Nat} {xs ys : List (List Fz)} (hvs : vrel g w r.st (.one (.ap tk k xs)) (a.eval s)) {vx : V} (hvx : vrel g w r.st vx (a.eval x)) (hel : elems r.st vx = some ys) (hok : okSz sz ys = true)
    {r1 : R} (h : (r.st[tk]?).bind (appTok r d sz tk k xs ys) = some r1) (kk : Then κ (locOf o.dst d :: loc) nt g w r r1 (a.put o.dst) next) : o.wp P a w next Q := by
  subst hs
  rw [Option.bind_eq_some_iff] at h
  obtain ⟨ob, hob, h⟩ := h
  unfold appTok at h
  split at h
  · rename_i hc
    obtain ⟨hfr, hlim⟩ := hc
    injection h with h
    subst h
    obtain ⟨fr, rfl, hn⟩ := front_some hfr
    obtain ⟨iz, z, h1, h2, h3⟩ := zeroOf_some hz
    rw [hi] at h1
    injection h1 with h1
    subst h1
    subst h3
    have hzl : z.cells.size = i.size := by simpa using hzs
    simp only [vrel, crel] at hvs
    obtain ⟨hrep, n, hfn, _, htv, sz', htz, hlx⟩ := hvs
    rw [frOf_of hob hn] at hfn
    injection hfn with hfn
    subst hfn
    rw [tokSz_of hob] at htz
    injection htz with htz
    subst htz
    have hu := htv rfl
    obtain ⟨a', c, news, ex, hlay, hat, hnone⟩ := elems_sound R0 hvx hel hok
    have h1news := lay_one h0 hlay
    have hexec : ∀ {v' : Value} {w' : World}, (Builtin.append_ #[t, t] o.type #[a.eval s, a.eval x]).run P w = .ok v' w' → (execOp a.eval o).run P w = .ok (.value v') w' := fun {v' w'} hr => by
      unfold execOp
      simp only [ho, resolve, hcal, hargs, htys, invoke, builtin, Sem.run_bind, Sem.run_pure, Result.andThen_ok, List.map_toArray, List.map_cons, List.map_nil, hr]
    -- the slice, as it stands
    obtain ⟨b0, c0, us, e0, hc0, hlayx, hxs⟩ : ∃ b0 c0 us, a.eval s = .slice b0 xs.length c0 ∧ xs.length ≤ c0 ∧ Lay w g.N i.size xs us ∧ At w b0 us := by
      obtain ⟨b0, c0, sz1, us, e1, e2, e3, e4⟩ := lay_of_rep hrep fun _ _ h => rep_one h
      rcases e4 with rfl | ⟨bb, oo, rfl, e5⟩
      · exact ⟨b0, c0, [], e1, e2, ⟨by simp, by simp only [lenAll], fun i e h => by simp at h⟩, fun ad _ j v h => by simp at h⟩
      · refine ⟨_, c0, us, e1, e2, ?_, fun ad ead j v hj => ?_⟩
        · cases xs with
          | nil => exact ⟨by simpa using e3.1, by simp only [lenAll], fun i e h => by simp at h⟩
          | cons y ys =>
            have e6 : sz1 = i.size := by rw [← lenAll_mem e3.2.1 y (by simp), lenAll_mem hlx y (by simp)]
            rwa [e6] at e3
        · injection ead with ead
          subst ead
          rw [add_plain']
          exact e5 j v hj
    have htok := R0.ob tk _ hob k _ hn
    by_cases hroom : xs.length + ys.length ≤ c0
    · by_cases hzero : xs.length + ys.length = 0
      · -- nothing at all
        have hy0 : ys = [] := List.eq_nil_of_length_eq_zero (by omega)
        have hx0 : xs = [] := List.eq_nil_of_length_eq_zero (by omega)
        subst hy0 hx0
        have hst : r.setOb tk ((Ob.tok i.size fr).setFront k 0) = r := by
          have e1 : (Ob.tok i.size fr).setFront k 0 = .tok i.size fr := by
            show Ob.tok i.size (fr.set k 0) = _
            rw [set_self' (by simpa using hn)]
          rw [e1]
          unfold R.setOb
          rw [set_self hob]
        have kk' : Then κ (locOf o.dst d :: loc) nt g w r (r.put d (.one (.ap tk k []))) (a.put o.dst) next := by simpa [hst] using kk
        refine pure_then R0 L F hd (hexec (v' := .slice b0 0 c0) ?_) ?_ kk'
        · rw [e0, ex]
          exact run_append_zero ht hi
        · simp only [vrel, crel]
          have e0' : a.eval s = .slice b0 0 c0 := by simpa using e0
          rw [← e0']
          exact ⟨hrep, _, frOf_of hob hn, Nat.le_refl _, fun _ => hu, _, tokSz_of hob, hlx⟩
      · rcases htok with ⟨m0, ma, m1⟩ | ⟨bb, oo, cc, arr, ty, m1, m2, m3, m4, m5, m6, m7⟩
        · rw [← hu, e0] at m1
          injection m1 with _ _ m1
          omega
        · rw [← hu, e0] at m1
          injection m1 with m1 _ m1c
          subst m1 m1c
          rw [e0] at hrep
          obtain ⟨arr', ty', g', q1, q2, q3, q4, q5⟩ := tok_room R0 hob hn (by rw [← hu, e0]) (by omega) hrep hlx hlay hroom
          refine eff_then (r1 := r.setOb tk (.tok i.size (fr.set k (xs.length + ys.length)))) F hd q3 q4 L.set rfl rfl (hexec ?_) (by simp only [vrel]; exact q5) kk
          rw [e0, ex]
          exact run_append_room' ht hi q1 hlay.1 hat hnone h1news hroom q2
    · have hge := grownCap_ge w (xs.length + ys.length) c0 e
      have hb0 : b0 = none → c0 = 0 := fun hb => by
        rcases htok with ⟨m0, ma, m1⟩ | ⟨bb, oo, cc, arr, ty, m1, _⟩
        · rw [← hu, e0] at m1
          injection m1
        · rw [← hu, e0] at m1
          injection m1 with m1 _ _
          rw [hb] at m1
          cases m1
      have hrun := run_append_grow' (P := P) (w := w) (ty := o.type) ht hi h2 hlayx.1 hxs hb0 hc0 (c := c) hlay.1 hat hnone (by omega) hlim hb
      obtain ⟨D1, D2⟩ := drawn R0 1
      obtain ⟨g', q3, q4, q5⟩ := tok_grow (e := e) (c := grownCap w (xs.length + ys.length) c0 e) (arr := us.toArray ++ news.toArray ++ Builtin.zeroCells z.cells (grownCap w (xs.length + ys.length) c0 e - (xs.length + ys.length))) D2 hob hn (hlayx.mono D1.keeps) (hlay.mono D1.keeps) (by omega) hge
        ⟨(Builtin.zeroCells z.cells (grownCap w (xs.length + ys.length) c0 e - (xs.length + ys.length))).toList, by simp⟩ (by
          simp only [Array.size_append, List.size_toArray, size_zeroCells, hzl, hlayx.1, hlay.1, ← Nat.add_mul]
          congr 1
          omega) (by omega)
      refine eff_then (r1 := r.setOb tk (.tok i.size (fr.set k (xs.length + ys.length)))) F hd (D1.trans q3) q4 L.set rfl rfl (hexec ?_) (by simp only [vrel]; exact q5) kk
      rw [e0, ex]
      exact hrun
  · cases h

theorem app_row (R0 : Rel g w r.st) (L : Low r.base r.lim r.st) (F : Fr κ loc nt g w r a) {t e : TypeId} {s x : Operand} {sz : Nat} {i : TypeInfo} {zs : List Value} {ct : Go.Call}
    (ho : o.op = .call ct) (hcal : ct.callee = .builtin .append) (hargs : ct.args = #[s, x]) (htys : ct.argTypes = #[t, t])
    (hd : okD κ nt o.dst d = true) (ht : P.underlying t = some (.slice e)) (hi : P.info? e = some i) (hb : i.bytes ≤ 32768) (hs : i.size = sz) (h0 : 0 < sz) (hz : zeroOf P e = some zs) (hzs : zs.length = sz)
    {id ver n : Nat} {ys : List (List Fz)} (hvs : vrel g w r.st (.one (.own id ver 0 n)) (a.eval s)) {vx : V} (hvx : vrel g w r.st vx (a.eval x)) (hel : elems r.st vx = some ys) (hok : okSz sz ys = true)
    {r1 : R} (h : (r.st[id]?).bind (appRow r d sz id ver n ys) = some r1) (kk : Then κ (locOf o.dst d :: loc) nt g w r r1 (a.put o.dst) next) : o.wp P a w next Q := by
  subst hs
  rw [Option.bind_eq_some_iff] at h
  obtain ⟨ob, hob, h⟩ := h
  unfold appRow at h
  split at h
  · rename_i hc
    obtain ⟨hrow, hpos, hlim⟩ := hc
    injection h with h
    subst h
    obtain ⟨es, rfl⟩ := isRow_some hrow
    obtain ⟨iz, z, h1, h2, h3⟩ := zeroOf_some hz
    rw [hi] at h1
    injection h1 with h1
    subst h1
    subst h3
    have hzl : z.cells.size = i.size := by simpa using hzs
    have hown := vrel_own hvs hob
    obtain ⟨b0, c0, e0, hc0, hl0, hl1⟩ := hown
    obtain ⟨a', c, news, ex, hlay, hat, hnone⟩ := elems_sound R0 hvx hel hok
    have h1news := lay_one h0 hlay
    have hexec : ∀ {v' : Value} {w' : World}, (Builtin.append_ #[t, t] o.type #[a.eval s, a.eval x]).run P w = .ok v' w' → (execOp a.eval o).run P w = .ok (.value v') w' := fun {v' w'} hr => by
      unfold execOp
      simp only [ho, resolve, hcal, hargs, htys, invoke, builtin, Sem.run_bind, Sem.run_pure, Result.andThen_ok, List.map_toArray, List.map_cons, List.map_nil, hr]
    have hrowl := rowRel_of_lay (σ := r.st) hlay
    have hgrow : (Ob.cells ver i.size es).grow n (ys.map fun e => e.map C.f) = .cells (ver + 1) i.size (es.take n ++ ys.map fun e => e.map C.f) := rfl
    rw [hgrow] at kk
    have hlow : ∀ ob', Low r.base r.lim (r.setOb id ob').st := fun ob' => L.set
    by_cases hroom : n + ys.length ≤ c0
    · have hes : es ≠ [] := fun h => by
        have := hl0 (by rw [h]; rfl)
        omega
      obtain ⟨arr, ty, q0, q1, q2, q3, q4, q5⟩ := row_room R0 hob hes ⟨b0, c0, rfl, hc0, hl0, hl1⟩ (by simpa using hlay.1) hrowl (by simpa using hroom) (by simpa using hpos)
      subst q0
      rw [List.length_map] at q5
      refine eff_then (r1 := r.setOb id (.cells (ver + 1) i.size (es.take n ++ ys.map fun e : List Fz => e.map C.f))) F hd q3 q4 (hlow _) rfl rfl (hexec ?_) (by simp only [vrel]; exact q5) kk
      rw [e0, ex]
      have := run_append_room' (P := P) (w := w) (ty := o.type) (off := 0) (sLen := n) (sCap := c0) (c := c) ht hi q1 hlay.1 hat hnone h1news hroom (by simpa using q2)
      simpa using this
    · have hge := grownCap_ge w (n + ys.length) c0 e
      -- the row's first elements
      obtain ⟨us, hul, hat0, hrow0, hb0⟩ : ∃ us, us.length = n * i.size ∧ At w b0 us ∧ rowRel g w r.st us.toArray i.size (es.take n) ∧ (b0 = none → c0 = 0) := by
        by_cases hes : es = []
        · have h3 := hl0 (by rw [hes]; rfl)
          have h4 : n = 0 := by omega
          subst h4
          exact ⟨[], by simp, fun ad _ j v h => by simp at h, fun i e h => by simp at h, fun _ => h3⟩
        · obtain ⟨f1, f2, arr, ty, f3, f4⟩ := hl1 fun h => hes (List.eq_nil_of_length_eq_zero h)
          obtain ⟨_, _, arr', ty', m1, m2, m3⟩ := R0.ob id _ hob hes
          rw [m1] at f3
          injection f3 with f3
          injection f3 with f3 _
          subst f3
          have hfit : n * i.size ≤ es.length * i.size := Nat.mul_le_mul_right _ (by omega)
          refine ⟨arr'.toList.take (n * i.size), by rw [List.length_take, Array.length_toList]; omega, fun ad ead j v hj => ?_, fun q e hq => ?_, fun hb => ?_⟩
          · rw [List.getElem?_take] at hj
            split at hj
            · have hc : c0 ≠ 0 := fun h => by
                have h4 : n = 0 := by omega
                subst h4
                omega
              rw [f2 hc] at ead
              injection ead with ead
              subst ead
              rw [add_plain', cell_at m1]
              rw [Array.getElem?_toList] at hj
              simpa using hj
            · cases hj
          · rw [List.getElem?_take] at hq
            split at hq
            · refine ⟨(m3 q e hq).1, fun j c hc => ?_⟩
              obtain ⟨u, k1, k2, k3⟩ := (m3 q e hq).2 j c hc
              have hj : j < i.size := by have := lt_of_some hc; have := (m3 q e hq).1; omega
              refine ⟨u, ?_, k2, k3⟩
              rw [List.getElem?_toArray, List.getElem?_take, if_pos (inside (by assumption) hj), Array.getElem?_toList]
              exact k1
            · cases hq
          · rcases Nat.eq_zero_or_pos c0 with h5 | h5
            · exact h5
            · rw [f2 (by omega)] at hb; cases hb
      have hnl : n ≤ es.length := by
        by_cases hes : es = []
        · have := hl0 (by rw [hes]; rfl); omega
        · have := (hl1 fun h => hes (List.eq_nil_of_length_eq_zero h)).1; omega
      have hrun := run_append_grow' (P := P) (w := w) (ty := o.type) ht hi h2 hul hat0 hb0 hc0 (c := c) hlay.1 hat hnone (by omega) hlim hb
      obtain ⟨D1, D2⟩ := drawn R0 1
      obtain ⟨g', q3, q4, q5⟩ := row_grow (e := e) (c := grownCap w (n + ys.length) c0 e) (arr := us.toArray ++ news.toArray ++ Builtin.zeroCells z.cells (grownCap w (n + ys.length) c0 e - (n + ys.length))) D2 hob hnl hul (D1.rowRel hrow0) (by simpa using hlay.1) (D1.rowRel hrowl) (by simpa using hge) (by simpa using hpos)
        ⟨(Builtin.zeroCells z.cells (grownCap w (n + ys.length) c0 e - (n + ys.length))).toList, by simp⟩ (by
          simp only [Array.size_append, List.size_toArray, size_zeroCells, hzl, hul, hlay.1, ← Nat.add_mul]
          congr 1
          omega)
      rw [List.length_map] at q5
      refine eff_then (r1 := r.setOb id (.cells (ver + 1) i.size (es.take n ++ ys.map fun e : List Fz => e.map C.f))) F hd (D1.trans q3) q4 (hlow _) rfl rfl (hexec ?_) (by simp only [vrel]; exact q5) kk
      rw [e0, ex]
      exact hrun
  · split at h
    · rename_i hc
      obtain ⟨hrow, hz0⟩ := hc
      injection h with h
      subst h
      have hy0 : ys = [] := List.eq_nil_of_length_eq_zero (by omega)
      have hn0 : n = 0 := by omega
      subst hy0 hn0
      obtain ⟨es, rfl⟩ := isRow_some hrow
      have hown := vrel_own hvs hob
      obtain ⟨b0, c0, e0, hc0, hl0, hl1⟩ := hown
      obtain ⟨a', c, news, ex, hlay, hat, hnone⟩ := elems_sound R0 hvx hel hok
      have hexec : ∀ {v' : Value} {w' : World}, (Builtin.append_ #[t, t] o.type #[a.eval s, a.eval x]).run P w = .ok v' w' → (execOp a.eval o).run P w = .ok (.value v') w' := fun {v' w'} hr => by
        unfold execOp
        simp only [ho, resolve, hcal, hargs, htys, invoke, builtin, Sem.run_bind, Sem.run_pure, Result.andThen_ok, List.map_toArray, List.map_cons, List.map_nil, hr]
      refine pure_then R0 L F hd (hexec (v' := .slice b0 0 c0) ?_) ?_ kk
      · rw [e0, ex]
        exact run_append_zero ht hi
      · rw [← e0]
        exact hvs
    · cases h

theorem app_sound (R0 : Rel g w r.st) (L : Low r.base r.lim r.st) (F : Fr κ loc nt g w r a) {t e : TypeId} {s x : Operand} {sz : Nat} {i : TypeInfo} {zs : List Value} {ct : Go.Call}
    (ho : o.op = .call ct) (hcal : ct.callee = .builtin .append) (hargs : ct.args = #[s, x]) (htys : ct.argTypes = #[t, t])
    (hd : okD κ nt o.dst d = true) (ht : P.underlying t = some (.slice e)) (hi : P.info? e = some i) (hb : i.bytes ≤ 32768) (hs : i.size = sz) (h0 : 0 < sz) (hz : zeroOf P e = some zs) (hzs : zs.length = sz)
    {vs vx : V} (hvs : vrel g w r.st vs (a.eval s)) (hvx : vrel g w r.st vx (a.eval x))
    {r1 : R} (h : ((elems r.st vx).bind fun ys => if okSz sz ys then aapp r d sz ys vs else none) = some r1) (kk : Then κ (locOf o.dst d :: loc) nt g w r r1 (a.put o.dst) next) : o.wp P a w next Q := by
  rw [Option.bind_eq_some_iff] at h
  obtain ⟨ys, hel, h⟩ := h
  split at h
  · rename_i hok
    unfold aapp at h
    split at h
    · exact app_tok R0 L F ho hcal hargs htys hd ht hi hb hs h0 hz hzs hvs hvx hel hok h kk
    · exact app_row R0 L F ho hcal hargs htys hd ht hi hb hs h0 hz hzs hvs hvx hel hok h kk
    · cases h
  · cases h

/-- Elements over others, in a row. -/
theorem row_copy {σ : Store} (R : Rel g w σ) {id ver sz lo : Nat} {es : List (List C)} {ys : List (List Fz)} {news : List Value} (hid : σ[id]? = some (.cells ver sz es)) (hne : es ≠ []) (hlay : Lay w g.N sz ys news) (h1 : ∀ v ∈ news, v.oneCell' = true) (h0 : 0 < sz) (hle : lo + ys.length ≤ es.length) :
    ∃ arr t, w.heap[g.ρ id]? = some (.cells arr t (0, 0)) ∧ lo * sz + news.length ≤ arr.size ∧
      Ext g w σ g (w.setRow (g.ρ id) (splice arr (lo * sz) news)) (σ.set id (.cells ver sz (es.take lo ++ (ys.map (fun e => e.map C.f) ++ es.drop (lo + ys.length))))) ∧
      Rel g (w.setRow (g.ρ id) (splice arr (lo * sz) news)) (σ.set id (.cells ver sz (es.take lo ++ (ys.map (fun e => e.map C.f) ++ es.drop (lo + ys.length))))) := by
  obtain ⟨how, hN, arr, t, hh, hsz, hrow⟩ := R.ob id _ hid hne
  have hnl : news.length = ys.length * sz := hlay.1
  have hfit : lo * sz + news.length ≤ arr.size := by
    have : (lo + ys.length) * sz ≤ es.length * sz := Nat.mul_le_mul_right _ hle
    rw [Nat.add_mul] at this
    omega
  refine ⟨arr, t, hh, hfit, ?_⟩
  have hrowl := rowRel_of_lay (σ := σ) hlay
  have hglt : g.ρ id < w.heap.size := (Array.getElem?_eq_some_iff.1 hh).1
  have hlen' : (es.take lo ++ (ys.map (fun e => e.map C.f) ++ es.drop (lo + ys.length))).length = es.length := by
    simp
    omega
  refine replace (g' := g) R hid (fun b => b = g.ρ id) rfl rfl rfl (by simp) (fun b hb ht => ⟨setRow_other w _ _ _ ht, rfl, fun _ h => h⟩)
    (fun b hb => ⟨.inl (by rw [hb]; exact how), rfl, fun o h => absurd (by rw [hb] at h; exact h) (hN o)⟩) (fun _ _ _ h => h) (fun _ _ => rfl) (fun _ _ _ => rfl) (fun b o h => by simpa using R.nb b o h) ?_ ?_ ?_ (fun _ _ h => by cases h) ?_
  · intro ver' sz' len' hs
    refine .inl ⟨?_, rfl, fun _ arr0 t0 hq0 => ?_⟩
    · rw [shapeOf_of hid] at hs
      injection hs with hs
      rw [shapeOf_of (get_set_same hid), ← hs, hlen']
    · rw [hh] at hq0
      injection hq0 with hq0
      injection hq0 with hq0 hq1
      subst hq0
      subst hq1
      exact ⟨_, setRow_heap w _ _ _ _ _ hh, splice_size hfit⟩
  · intro es' h; cases h
  · intro k n h; simp [frOf, hid, Ob.fr] at h
  · intro H hne'
    refine ⟨how, hN, _, t, setRow_heap w _ _ _ _ _ hh, by rw [splice_size hfit, hlen']; exact hsz, fun i x hx => ?_⟩
    have old : ∀ i x, es[i]? = some x → (i < lo ∨ lo + ys.length ≤ i) → x.length = sz ∧ ∀ j c, x[j]? = some c → ∃ u, (splice arr (lo * sz) news)[i * sz + j]? = some u ∧ crel g (w.setRow (g.ρ id) (splice arr (lo * sz) news)) (σ.set id (.cells ver sz (es.take lo ++ (ys.map (fun e => e.map C.f) ++ es.drop (lo + ys.length))))) c u ∧ u.oneCell' = true := fun i x hx hi => by
      refine ⟨(hrow i x hx).1, fun j c hc => ?_⟩
      obtain ⟨u, a, b, d⟩ := (hrow i x hx).2 j c hc
      have hj : j < sz := by have := lt_of_some hc; have := (hrow i x hx).1; omega
      refine ⟨u, ?_, H.crel c u b, d⟩
      rw [splice_get hfit]
      rcases hi with hi | hi
      · have := inside (q := j) hi hj
        rw [if_pos (by omega)]
        exact a
      · have h2 : (lo + ys.length) * sz ≤ i * sz := Nat.mul_le_mul_right _ hi
        rw [Nat.add_mul] at h2
        rw [if_neg (by omega), if_neg (by omega)]
        exact a
    rw [List.getElem?_append] at hx
    by_cases c1 : i < lo
    · rw [if_pos (by simp; omega), List.getElem?_take, if_pos c1] at hx
      exact old i x hx (.inl c1)
    · rw [if_neg (by simp; omega), List.getElem?_append] at hx
      have htl : (es.take lo).length = lo := by simp; omega
      rw [htl] at hx
      by_cases c2 : i - lo < ys.length
      · rw [if_pos (by simpa using c2)] at hx
        obtain ⟨k1, k2⟩ := hrowl (i - lo) x hx
        refine ⟨k1, fun j c hc => ?_⟩
        obtain ⟨u, a, b, d⟩ := k2 j c hc
        have hj : j < sz := by have := lt_of_some hc; omega
        refine ⟨u, ?_, H.crel c u b, d⟩
        rw [splice_get hfit]
        have e1 : i * sz = lo * sz + (i - lo) * sz := by rw [← Nat.add_mul]; congr 1; omega
        have e2 := inside (q := j) c2 hj
        rw [if_neg (by omega), if_pos (by omega), show i * sz + j - lo * sz = (i - lo) * sz + j from by omega]
        simpa using a
      · rw [if_neg (by simpa using c2), List.getElem?_drop] at hx
        simp only [List.length_map] at hx
        rw [show lo + ys.length + (i - lo - ys.length) = i from by omega] at hx
        exact old i x hx (.inr (by omega))

theorem lay_take {N : Cells} {sz k : Nat} {ys : List (List Fz)} {news : List Value} (h : Lay w N sz ys news) (hk : k ≤ ys.length) : Lay w N sz (ys.take k) (news.take (k * sz)) := by
  obtain ⟨h1, h2, h3⟩ := h
  have hks : k * sz ≤ ys.length * sz := Nat.mul_le_mul_right _ hk
  refine ⟨by rw [List.length_take, List.length_take, h1, Nat.min_eq_left hks, Nat.min_eq_left hk], lenAll_of fun e he => lenAll_mem h2 e (List.mem_of_mem_take he), fun i e hi j x hj => ?_⟩
  rw [List.getElem?_take] at hi
  split at hi
  · rename_i hik
    obtain ⟨u, a, b, c⟩ := h3 i e hi j x hj
    have hj' : j < sz := by have := lt_of_some hj; have := lenAll_get h2 hi; omega
    have := inside (q := j) hik hj'
    exact ⟨u, by rw [List.getElem?_take, if_pos this]; exact a, b, c⟩
  · cases hi

theorem cpy_sound (R0 : Rel g w r.st) (L : Low r.base r.lim r.st) (F : Fr κ loc nt g w r a) {t t' e : TypeId} {x y : Operand} {sz : Nat} {ct : Go.Call}
    (ho : o.op = .call ct) (hcal : ct.callee = .builtin .copy) (hargs : ct.args = #[x, y]) (htys : ct.argTypes = #[t, t'])
    (hd : okD κ nt o.dst d = true) (ht : P.underlying t = some (.slice e)) (hs : szOf P e = some sz) (h0 : 0 < sz)
    {vx vy : V} (hvx : vrel g w r.st vx (a.eval x)) (hvy : vrel g w r.st vy (a.eval y))
    {r1 : R} (h : ((elems r.st vy).bind fun ys => if okSz sz ys then acpy r d sz ys vx else none) = some r1) (kk : Then κ (locOf o.dst d :: loc) nt g w r r1 (a.put o.dst) next) : o.wp P a w next Q := by
  rw [Option.bind_eq_some_iff] at h
  obtain ⟨ys, hel, h⟩ := h
  split at h
  · rename_i hok
    unfold acpy at h
    split at h
    · rename_i id ver lo n
      split at h
      · cases h
      · rename_i hk0
        rw [Option.bind_eq_some_iff] at h
        obtain ⟨ob, hob, h⟩ := h
        cases ob with
        | tok _ _ => simp [copyRow] at h
        | mp _ => simp [copyRow] at h
        | cells ver' sz' es =>
          simp only [copyRow] at h
          split at h
          · rename_i hc
            obtain ⟨rfl, rfl, hle⟩ := hc
            injection h with h
            subst h
            have hown := vrel_own hvx hob
            obtain ⟨b0, c0, e0, hc0, hl0, hl1⟩ := hown
            obtain ⟨a', c, news, ex, hlay, hat, hnone⟩ := elems_sound R0 hvy hel hok
            have h1news := lay_one h0 hlay
            have hes : es ≠ [] := fun h => by
              rw [h, List.length_nil] at hle
              omega
            have hlen0 : es.length ≠ 0 := fun h => hes (List.eq_nil_of_length_eq_zero h)
            obtain ⟨hb1, hb2, _⟩ := hl1 hlen0
            have hb := hb2 (by omega)
            subst hb
            have hk : min ys.length n ≤ ys.length := Nat.min_le_left _ _
            have hlay' := lay_take hlay hk
            have htl : (ys.take (min ys.length n)).length = min ys.length n := by simp
            obtain ⟨arr, ty, hh, hfit, H, R1⟩ := row_copy (lo := lo) R0 hob hes hlay' (fun v hv => h1news v (List.mem_of_mem_take hv)) h0 (by rw [htl]; exact hle)
            rw [htl] at H R1
            obtain ⟨ad, rfl⟩ : ∃ ad, a' = some ad := by
              cases a' with
              | none => have := hnone rfl; omega
              | some ad => exact ⟨ad, rfl⟩
            have hnl : (news.take (min ys.length n * sz')).length = min ys.length n * sz' := by rw [hlay'.1, htl]
            have hload : (loadCells ad (min ys.length n * sz')).run P w = .ok (news.take (min ys.length n * sz')).toArray w := by
              have := run_loadCells_list (P := P) w ad (news.take (min ys.length n * sz')) (fun j v hj => by
                rw [List.getElem?_take] at hj
                split at hj
                · exact hat ad rfl j v hj
                · cases hj)
              rwa [hnl] at this
            have hst := run_storeCells_at P (g.ρ id) (lo * sz') ty (news.take (min ys.length n * sz')) 0 arr w hh (by simpa using hfit) (fun v hv => h1news v (List.mem_of_mem_take hv))
            simp only [Nat.add_zero] at hst
            have hrun : (execOp a.eval o).run P w = .ok (.value (goInt (min ys.length n : Nat))) (w.setRow (g.ρ id) (splice arr (lo * sz') (news.take (min ys.length n * sz')))) := by
              unfold szOf at hs
              cases hq : P.info? e with
              | none => simp [hq] at hs
              | some inf =>
                have hsz : inf.size = sz' := by simpa [hq] using hs
                have hmin : Nat.min ys.length n = min ys.length n := rfl
                unfold execOp
                simp only [ho, resolve, hcal, hargs, htys, invoke, builtin, Sem.run_bind, Sem.run_pure, Result.andThen_ok, List.map_toArray, List.map_cons, List.map_nil, e0, ex]
                simp [Builtin.copy_, run_underlying ht, Builtin.lenOf, Builtin.firstCells, sizeOf, typeInfo, hq, hsz, hmin, hload, hst, splice]
            refine eff_then (r1 := r.setOb id _) F hd H R1 L.set rfl rfl hrun ?_ kk
            exact vrel_lit_mk rfl
          · cases h
    · cases h
  · cases h
end
end Go.A

/- Maps. -/
namespace Go.A
section
variable {P : Program} {κ : List Tmp} {loc : List (Option Tmp)} {nt : Nat} {g : G} {w : World} {r r' : R} {a : Act} {o : Go.Oper} {d : D} {next : Act → World → Prop} {Q : Exit → Act → World → Prop}

theorem run_checkKey {b : Bool} {t : TypeId} {k : IntKind} {v : Value} (h : P.underlying t = some (.int k)) : (Instr.checkKey b 10000 t v).run P w = .ok () w := by
  show (Instr.checkKey b (9999 + 1) t v).run P w = _
  unfold Instr.checkKey
  rw [Sem.run_bind, run_underlying h]
  cases v <;> rfl

theorem find_none {σ : Store} {k : Int} : ∀ {es : List (Int × V)} {ents : List MapEntry} {i : Nat}, mrel g w σ es ents → mget k es = none → Instr.findNow (.int .i64) (.int .i64 k) ents i = some none
  | [], ents, i, hm, _ => by
    have : ents = [] := hm
    subst this
    rfl
  | x :: es, ents, i, hm, h => by
    obtain ⟨e, rest, rfl, h1, _, h3⟩ := hm
    simp only [mget] at h
    split at h
    · cases h
    · rename_i hne
      unfold Instr.findNow
      have hne' : ¬ (k = x.1) := fun e => hne e.symm
      simp only [h1, Instr.sameNow, if_pos]
      have : (k == x.1) = false := by simpa using hne'
      rw [this]
      exact find_none h3 h
theorem find_some {σ : Store} {k : Int} : ∀ {es : List (Int × V)} {ents : List MapEntry} {i : Nat} {v : V}, mrel g w σ es ents → mget k es = some v →
    ∃ j e, Instr.findNow (.int .i64) (.int .i64 k) ents i = some (some (i + j, e.val)) ∧ ents[j]? = some e ∧ e.key = .int .i64 k ∧ vrel g w σ v e.val ∧
      ∀ {g' : G} {w' : World} {σ' : Store} {v' : V} {u' : Value}, Ext g w σ g' w' σ' → vrel g' w' σ' v' u' → mrel g' w' σ' (mput k v' es) (ents.modify j fun e => { e with key := .int .i64 k, val := u' })
  | [], _, _, _, _, h => by simp [mget] at h
  | x :: es, ents, i, v, hm, h => by
    obtain ⟨e, rest, rfl, h1, h2, h3⟩ := hm
    simp only [mget] at h
    split at h
    · rename_i hk
      injection h with h
      subst h
      refine ⟨0, e, ?_, by simp, by rw [h1, hk], h2, fun H hv => ?_⟩
      · unfold Instr.findNow
        simp [h1, Instr.sameNow, hk]
      · simp only [mput, if_pos hk, List.modify_zero_cons]
        exact ⟨_, _, rfl, rfl, hv, H.mrel h3⟩
    · rename_i hne
      obtain ⟨j, e', h4, h5, h6, h7, h8⟩ := find_some (i := i + 1) h3 h
      refine ⟨j + 1, e', ?_, by simpa using h5, h6, h7, fun H hv => ?_⟩
      · unfold Instr.findNow
        have : (k == x.1) = false := by simpa using fun e : k = x.1 => hne e.symm
        simp only [h1, Instr.sameNow, if_pos, this]
        rw [h4, show i + 1 + j = i + (j + 1) from by omega]
      · simp only [mput, if_neg hne, List.modify_succ_cons]
        exact ⟨_, _, rfl, h1, H.vrel _ _ h2, h8 H hv⟩
theorem mput_new {σ : Store} {k : Int} : ∀ {es : List (Int × V)} {ents : List MapEntry}, mrel g w σ es ents → mget k es = none → ∀ {g' : G} {w' : World} {σ' : Store} {v' : V} {e' : MapEntry}, Ext g w σ g' w' σ' → e'.key = .int .i64 k → vrel g' w' σ' v' e'.val → mrel g' w' σ' (mput k v' es) (ents ++ [e'])
  | [], ents, hm, _, _, _, _, _, e', H, hk, hv => by
    have : ents = [] := hm
    subst this
    exact ⟨e', [], rfl, hk, hv, rfl⟩
  | x :: es, ents, hm, h, _, _, _, _, e', H, hk, hv => by
    obtain ⟨e, rest, rfl, h1, h2, h3⟩ := hm
    simp only [mget] at h
    split at h
    · cases h
    · rename_i hne
      simp only [mput, if_neg hne]
      exact ⟨e, rest ++ [e'], rfl, h1, H.vrel _ _ h2, mput_new h3 h H hk hv⟩

theorem mget_none {k : Int} : ∀ {es : List (Int × V)}, mget k es = none ↔ ∀ e ∈ es, e.1 ≠ k
  | [] => by simp [mget]
  | e :: es => by
    simp only [mget]
    split
    · rename_i h
      simp [h]
    · rename_i h
      rw [mget_none (es := es)]
      simp [h]
theorem mget_some {k : Int} {v : V} : ∀ {es : List (Int × V)}, (es.map (·.1)).Nodup → (mget k es = some v ↔ (k, v) ∈ es)
  | [], _ => by simp [mget]
  | e :: es, hn => by
    simp only [List.map_cons, List.nodup_cons] at hn
    simp only [mget]
    split
    · rename_i h
      subst h
      constructor
      · intro h; injection h with h; subst h; simp
      · intro h
        rcases List.mem_cons.1 h with h | h
        · rw [← h]
        · exact absurd (List.mem_map.2 ⟨_, h, rfl⟩) hn.1
    · rename_i h
      rw [mget_some hn.2]
      constructor
      · exact fun h => List.mem_cons_of_mem _ h
      · intro h'
        rcases List.mem_cons.1 h' with h' | h'
        · exact absurd (by rw [← h']) h
        · exact h'
theorem mget_perm {k : Int} {es es' : List (Int × V)} (hn : (es'.map (·.1)).Nodup) (h : es'.Perm es) : mget k es' = mget k es := by
  have hn' : (es.map (·.1)).Nodup := (h.map _).nodup_iff.1 hn
  cases hg : mget k es' with
  | none =>
    refine (mget_none.2 fun e he => mget_none.1 hg e (h.mem_iff.2 he)).symm
  | some v => exact ((mget_some hn').2 (h.mem_iff.1 ((mget_some hn).1 hg))).symm
theorem mput_none {k : Int} {v : V} : ∀ {es : List (Int × V)}, mget k es = none → mput k v es = es ++ [(k, v)]
  | [], _ => rfl
  | e :: es, h => by
    simp only [mget] at h
    split at h
    · cases h
    · rename_i hne
      simp only [mput, if_neg hne, mput_none h, List.cons_append]
theorem mput_keys {k : Int} {v v0 : V} : ∀ {es : List (Int × V)}, mget k es = some v0 → (mput k v es).map (·.1) = es.map (·.1)
  | [], h => by simp [mget] at h
  | e :: es, h => by
    simp only [mget] at h
    split at h
    · rename_i hk
      simp [mput, hk]
    · rename_i hne
      simp only [mput, if_neg hne, List.map_cons, mput_keys h]
theorem mput_some {k : Int} {v v0 : V} : ∀ {es : List (Int × V)}, (es.map (·.1)).Nodup → mget k es = some v0 → ((k, v0) :: mput k v es).Perm ((k, v) :: es)
  | [], _, h => by simp [mget] at h
  | e :: es, hn, h => by
    simp only [List.map_cons, List.nodup_cons] at hn
    simp only [mget] at h
    split at h
    · rename_i hk
      injection h with h
      simp only [mput, if_pos hk]
      have : e = (k, v0) := by rw [← hk, ← h]
      rw [this]
      exact List.Perm.swap _ _ _
    · rename_i hne
      simp only [mput, if_neg hne]
      exact (List.Perm.swap _ _ _).trans (((mput_some hn.2 h).cons e).trans (List.Perm.swap _ _ _))
theorem mput_perm {k : Int} {v : V} {es es' : List (Int × V)} (hn : (es'.map (·.1)).Nodup) (h : es'.Perm es) : (mput k v es').Perm (mput k v es) := by
  have hn' : (es.map (·.1)).Nodup := (h.map _).nodup_iff.1 hn
  cases hg : mget k es' with
  | none =>
    rw [mput_none hg, mput_none (by rw [← mget_perm hn h]; exact hg)]
    exact h.append_right _
  | some v0 =>
    have h1 := mput_some (v := v) hn hg
    have h2 := mput_some (v := v) hn' (by rw [← mget_perm hn h]; exact hg)
    exact (List.perm_cons _).1 (h1.trans ((h.cons _).trans h2.symm))
theorem mput_nodup {k : Int} {v : V} {es : List (Int × V)} (hn : (es.map (·.1)).Nodup) : ((mput k v es).map (·.1)).Nodup := by
  cases hg : mget k es with
  | none =>
    rw [mput_none hg, List.map_append]
    refine List.nodup_append.2 ⟨hn, by simp, fun a ha b hb => ?_⟩
    simp at hb
    subst hb
    obtain ⟨e, he, rfl⟩ := List.mem_map.1 ha
    exact mget_none.1 hg e he
  | some v0 => rw [mput_keys hg]; exact hn

theorem mp_some {σ : Store} {id : Nat} {es : List (Int × V)} (h : (σ[id]?).bind Ob.entries = some es) : σ[id]? = some (.mp es) := by
  rw [Option.bind_eq_some_iff] at h
  obtain ⟨ob, h1, h2⟩ := h
  unfold Ob.entries at h2
  split at h2
  · injection h2 with h2; subst h2; exact h1
  · cases h2

theorem lk_sound (R0 : Rel g w r.st) {t key elem : TypeId} {x k : Operand} {ok : Bool} {z : Value} {i : TypeInfo} {zero : V} (ho : o.op = .lookup t x k ok) (ht : P.underlying t = some (.map key elem)) (hk : P.underlying key = some (.int .i64)) (hi : P.info? elem = some i) (hz : i.zero = some z) (hzero : okConst z zero = true)
    {vx vk v : V} (hx : vrel g w r.st vx (a.eval x)) (hvk : vrel g w r.st vk (a.eval k)) (h : alk r.st zero ok vx vk = some v) :
    ∃ u, (execOp a.eval o).run P w = .ok (.value u) w ∧ vrel g w r.st v u := by
  have miss : ∀ u, (∀ b, Instr.checkKey b 10000 key (a.eval k) = Instr.checkKey b 10000 key (a.eval k)) → (Instr.lookup t (a.eval x) (a.eval k) ok).run P w = .ok u w → (execOp a.eval o).run P w = .ok (.value u) w := fun u _ hr => by
    unfold execOp
    simp only [ho, Sem.run_bind, hr, Result.andThen_ok, Sem.run_pure]
  have htrue : vrel g w r.st (vbool true) (.bool true) := vrel_lit_mk rfl
  have hfalse : vrel g w r.st (vbool false) (.bool false) := vrel_lit_mk rfl
  have pair : ∀ {v1 : V} {u1 : Value} {b : Bool}, vrel g w r.st v1 u1 → vrel g w r.st (.tup [v1, vbool b]) (.tuple #[u1, .bool b]) := fun {v1 u1 b} h1 => by
    simp only [vrel]
    exact ⟨_, rfl, by simp only [vrels]; exact ⟨_, _, rfl, h1, _, _, rfl, vrel_lit_mk rfl, rfl⟩⟩
  unfold alk at h
  split at h
  · rename_i id kk
    obtain ⟨ek, _⟩ := vrel_lit hvk
    rw [Option.map_eq_some_iff] at h
    obtain ⟨es, h1, rfl⟩ := h
    have hid := mp_some h1
    obtain ⟨_, _, ents, clock, hh, ⟨es', hperm, hnd, hm⟩, _, _⟩ := R0.ob id _ hid
    simp only [vrel, crel] at hx
    have ex := hx.2
    rw [← mget_perm hnd hperm]
    cases hg : mget kk es' with
    | none =>
      have hf := find_none (i := 0) hm hg
      cases ok
      · refine ⟨z, miss z (fun _ => rfl) ?_, okConst_sound hzero⟩
        rw [ex, ek]
        simp [Instr.lookup, run_underlying ht, MapKept.run_getObj_map hh, run_checkKey (P := P) (w := w) hk, Instr.findKey, run_underlying hk, hf, run_zeroValue (w := w) hi hz]
      · refine ⟨.tuple #[z, .bool false], miss _ (fun _ => rfl) ?_, pair (okConst_sound hzero)⟩
        rw [ex, ek]
        simp [Instr.lookup, run_underlying ht, MapKept.run_getObj_map hh, run_checkKey (P := P) (w := w) hk, Instr.findKey, run_underlying hk, hf, run_zeroValue (w := w) hi hz]
    | some v0 =>
      obtain ⟨j, e, hf, _, _, hv, _⟩ := find_some (i := 0) hm hg
      cases ok
      · refine ⟨e.val, miss _ (fun _ => rfl) ?_, hv⟩
        rw [ex, ek]
        simp [Instr.lookup, run_underlying ht, MapKept.run_getObj_map hh, run_checkKey (P := P) (w := w) hk, Instr.findKey, run_underlying hk, hf]
      · refine ⟨.tuple #[e.val, .bool true], miss _ (fun _ => rfl) ?_, pair hv⟩
        rw [ex, ek]
        simp [Instr.lookup, run_underlying ht, MapKept.run_getObj_map hh, run_checkKey (P := P) (w := w) hk, Instr.findKey, run_underlying hk, hf]
  · obtain ⟨ek, _⟩ := vrel_lit hvk
    obtain ⟨ex, _⟩ := vrel_lit hx
    injection h with h
    subst h
    cases ok
    · refine ⟨z, miss z (fun _ => rfl) ?_, okConst_sound hzero⟩
      rw [ex, ek]
      simp [Instr.lookup, run_underlying ht, run_checkKey (P := P) (w := w) hk, Instr.findKey, run_underlying hk, Instr.findNow, run_zeroValue (w := w) hi hz]
    · refine ⟨.tuple #[z, .bool false], miss _ (fun _ => rfl) ?_, pair (okConst_sound hzero)⟩
      rw [ex, ek]
      simp [Instr.lookup, run_underlying ht, run_checkKey (P := P) (w := w) hk, Instr.findKey, run_underlying hk, Instr.findNow, run_zeroValue (w := w) hi hz]
  · cases h

theorem mu_sound (R0 : Rel g w r.st) (L : Low r.base r.lim r.st) (F : Fr κ loc nt g w r a) {t key elem : TypeId} {x k y : Operand} (ho : o.op = .mapUpdate t x k y ∨ o.op = .insert t x k y) (hd : okD κ nt o.dst d = true) (hno : d = .no) (ht : P.underlying t = some (.map key elem)) (hk : P.underlying key = some (.int .i64))
    {vx vk vy : V} (hx : vrel g w r.st vx (a.eval x)) (hvk : vrel g w r.st vk (a.eval k)) (hy : vrel g w r.st vy (a.eval y)) {r1 : R} (h : amu r vy vx vk = some r1) (kk : Then κ (locOf o.dst d :: loc) nt g w r (r1.put d vun) (a.put o.dst) next) : o.wp P a w next Q := by
  unfold amu at h
  split at h
  · rename_i id n
    obtain ⟨ek, _⟩ := vrel_lit hvk
    · rw [Option.map_eq_some_iff] at h
      obtain ⟨es, h1, rfl⟩ := h
      have hid := mp_some h1
      obtain ⟨_, _, ents, clock, hh, ⟨es', hperm, hnd, hm⟩, hb1, hb2⟩ := R0.ob id _ hid
      simp only [vrel, crel] at hx
      have ex := hx.2
      have hpp := mput_perm (k := n) (v := vy) hnd hperm
      have hlow : Low r.base r.lim (r.setOb id (.mp (mput n vy es))).st := L.set
      cases hg : mget n es' with
      | none =>
        have hf := find_none (i := 0) hm hg
        obtain ⟨H, R1⟩ := map_set (clock' := clock + 1) (es' := mput n vy es) (ents' := ents.push { key := .int .i64 n, val := a.eval y, born := clock }) R0 hid hh fun H => by
          rw [Array.toList_push]
          refine ⟨⟨_, hpp, mput_nodup hnd, mput_new hm hg H rfl (H.vrel _ _ hy)⟩, ?_, ?_⟩
          · rw [List.map_append]
            refine List.nodup_append.2 ⟨hb1, by simp, fun a ha b hb => ?_⟩
            simp at hb
            subst hb
            obtain ⟨e, he, rfl⟩ := List.mem_map.1 ha
            have := hb2 e he
            omega
          · intro e he
            rcases List.mem_append.1 he with he | he
            · have := hb2 e he
              omega
            · simp at he
              subst he
              simp
        refine eff_skip (r1 := r.setOb id (.mp (mput n vy es))) F hd hno H R1 hlow rfl rfl ?_ kk
        rcases ho with ho | ho <;> (unfold execOp; simp only [ho, ex, ek]; simp [Instr.mapUpdate, run_underlying ht, MapKept.run_getObj_map hh, run_checkKey (P := P) (w := w) hk, Instr.findKey, run_underlying hk, hf, MapKept.run_setObj_map _ hh])
      | some v0 =>
        obtain ⟨j, e, hf, hj, hkey, _, hnew⟩ := find_some (i := 0) hm hg
        obtain ⟨H, R1⟩ := map_set (clock' := clock) (es' := mput n vy es) (ents' := ents.modify j fun e => { e with key := .int .i64 n, val := a.eval y }) R0 hid hh fun H => by
          rw [Array.toList_modify]
          refine ⟨⟨_, hpp, mput_nodup hnd, hnew H (H.vrel _ _ hy)⟩, ?_, ?_⟩
          · have e1 : ((ents.toList.modify j fun e => { e with key := .int .i64 n, val := a.eval y }).map (·.born)) = ents.toList.map (·.born) := by
              refine List.ext_getElem? fun i => ?_
              rw [List.getElem?_map, List.getElem?_map, List.getElem?_modify]
              cases ents.toList[i]? <;> simp
              split <;> rfl
            rw [e1]
            exact hb1
          · intro e he
            obtain ⟨i, hi⟩ := List.mem_iff_getElem?.1 he
            rw [List.getElem?_modify] at hi
            cases hq : ents.toList[i]? with
            | none => rw [hq] at hi; simp at hi
            | some e0 =>
              have := hb2 e0 (List.mem_of_getElem? hq)
              rw [hq] at hi
              simp at hi
              rw [← hi]
              split <;> exact this
        refine eff_skip (r1 := r.setOb id (.mp (mput n vy es))) F hd hno H R1 hlow rfl rfl ?_ kk
        have hj' : ents[j]? = some e := by simpa using hj
        rcases ho with ho | ho <;> (unfold execOp; simp only [ho, ex, ek]; simp [Instr.mapUpdate, run_underlying ht, MapKept.run_getObj_map hh, run_checkKey (P := P) (w := w) hk, Instr.findKey, run_underlying hk, hf, hj', hkey, Instr.keyThatStays, Instr.sameBits, MapKept.run_setObj_map _ hh])
  · cases h

/-! ### Arrays and structs of whole numbers, compared -/
def valEq (xs ys : Array Value) (i : Nat) : Bool := match xs[i]?, ys[i]? with
  | some (.int _ a), some (.int _ b) => a == b
  | _, _ => false
def bothInt (xs ys : Array Value) (i : Nat) : Prop := ∃ k a b, xs[i]? = some (.int k a) ∧ ys[i]? = some (.int k b)
def isIntTy (P : Program) (t : TypeId) : Bool := match P.underlying t with
  | some (.int _) => true
  | _ => false
theorem isIntTy_some {t : TypeId} (h : isIntTy P t = true) : ∃ k, P.underlying t = some (.int k) := by
  unfold isIntTy at h
  split at h
  · exact ⟨_, by assumption⟩
  · cases h
theorem run_part_int {t : TypeId} (h : isIntTy P t = true) {xs : Array Value} {i : Nat} {v : Value} (hv : xs[i]? = some v) : (part t xs i).run P w = .ok v w := by
  obtain ⟨k, hk⟩ := isIntTy_some h
  have ha : aggTy P t = some false := by unfold aggTy; rw [hk]; rfl
  unfold part
  simp only [Sem.run_bind, run_isAgg (w := w) ha, Result.andThen_ok, Bool.false_eq_true, if_false, hv]
  rfl
theorem eqItems_run {e : TypeId} (he : isIntTy P e = true) (d : Nat) (xs ys : Array Value) : ∀ (l : List Nat), (∀ i ∈ l, bothInt xs ys i) → (Op.eqItems (d + 1) e 1 xs ys l).run P w = .ok (l.all (valEq xs ys)) w
  | [], _ => by simp [Op.eqItems]
  | i :: l, h => by
    obtain ⟨k, a, b, h1, h2⟩ := h i (by simp)
    obtain ⟨k', hk'⟩ := isIntTy_some he
    have ih := eqItems_run he d xs ys l fun j hj => h j (List.mem_cons_of_mem _ hj)
    simp only [Op.eqItems, Nat.mul_one, Sem.run_bind, run_part_int he h1, run_part_int he h2, Result.andThen_ok, run_equalIn_int w d e k k' a b hk', List.all_cons]
    have hv : valEq xs ys i = (a == b) := by unfold valEq; rw [h1, h2]
    rw [hv]
    cases hab : (a == b) with
    | false => simp
    | true => simpa using ih
theorem eqFields_run (d : Nat) (xs ys : Array Value) : ∀ (fs : List Field), (∀ f ∈ fs, f.name ≠ "_" ∧ isIntTy P f.type = true ∧ bothInt xs ys f.offset) → (Op.eqFields (d + 1) xs ys fs).run P w = .ok ((fs.map (·.offset)).all (valEq xs ys)) w
  | [], _ => by simp [Op.eqFields]
  | f :: fs, h => by
    obtain ⟨hn, he, k, a, b, h1, h2⟩ := h f (by simp)
    obtain ⟨k', hk'⟩ := isIntTy_some he
    have ih := eqFields_run d xs ys fs fun j hj => h j (List.mem_cons_of_mem _ hj)
    simp only [Op.eqFields, if_pos hn, Sem.run_bind, run_part_int he h1, run_part_int he h2, Result.andThen_ok, run_equalIn_int w d f.type k k' a b hk', List.map_cons, List.all_cons]
    have hv : valEq xs ys f.offset = (a == b) := by unfold valEq; rw [h1, h2]
    rw [hv]
    cases hab : (a == b) with
    | false => simp
    | true => simpa using ih

/-- Is it an array, or a struct, of n whole numbers? -/
def flatTy (P : Program) (t : TypeId) : Option Nat := match P.underlying t with
  | some (.array n e) => if isIntTy P e && (P.cellsOf e == 1) && (P.info? e).isSome then some n else none
  | some (.struct fs) => if !P.stoodInHeld t && fs.toList.all (fun f => decide (f.name ≠ "_") && isIntTy P f.type) && (fs.toList.map (·.offset) == List.range fs.toList.length) && (P.fieldsOf t).toList.length == fs.toList.length then some fs.toList.length else none
  | _ => none
theorem flat_run {t : TypeId} {n : Nat} (h : flatTy P t = some n) {xs ys : Array Value} (hb : ∀ i, i < n → bothInt xs ys i) : (Op.equalIn 10000 t (.agg xs) (.agg ys)).run P w = .ok ((List.range n).all (valEq xs ys)) w := by
  unfold flatTy at h
  split at h
  · rename_i n' e hu
    split at h
    · rename_i hc
      injection h with h
      subst h
      simp only [Bool.and_eq_true, beq_iff_eq] at hc
      obtain ⟨⟨h1, h2⟩, h3⟩ := hc
      obtain ⟨i, hi⟩ := Option.isSome_iff_exists.1 h3
      rw [run_equalIn_array w 9999 xs ys hu hi, h2]
      exact eqItems_run h1 9998 xs ys _ fun j hj => hb j (by simpa using hj)
    · cases h
  · rename_i fs hu
    split at h
    · rename_i hc
      injection h with h
      subst h
      simp only [Bool.and_eq_true, Bool.not_eq_true', beq_iff_eq] at hc
      obtain ⟨⟨⟨h1, h2⟩, h3⟩, h4⟩ := hc
      have hf : P.fieldsOf t = fs := by simp [Program.fieldsOf, hu]
      rw [run_equalIn_struct w 9999 t xs ys (by rw [hf]; exact hu) h1, hf]
      rw [eqFields_run 9998 xs ys fs.toList fun f hf' => ?_, h3]
      have h5 := List.all_eq_true.1 h2 f hf'
      simp only [Bool.and_eq_true, decide_eq_true_eq] at h5
      have h6 : f.offset ∈ fs.toList.map (·.offset) := List.mem_map.2 ⟨f, hf', rfl⟩
      rw [h3] at h6
      exact ⟨h5.1, h5.2, hb _ (by simpa using h6)⟩
    · cases h
  · cases h

theorem eqCells_some {σ : Store} : ∀ {cs ds : List C} {us vs : List Value} {b : Bool}, eqCells cs ds = some b → crels g w σ cs us → crels g w σ ds vs → us.length = cs.length ∧ vs.length = cs.length ∧ (∀ i, i < cs.length → bothInt us.toArray vs.toArray i) ∧ b = (List.range cs.length).all (valEq us.toArray vs.toArray)
  | [], [], us, vs, b, h, hu, hv => by
    have e1 : us = [] := by simpa only [crels] using hu
    have e2 : vs = [] := by simpa only [crels] using hv
    subst e1 e2
    simp only [eqCells, Option.some.injEq] at h
    subst h
    exact ⟨rfl, rfl, fun i hi => by simp at hi, by simp⟩
  | c :: cs, d :: ds, us, vs, b, h, hu, hv => by
    unfold eqCells at h
    split at h
    · rename_i heq _; cases heq
    · rename_i k a xs k' b' ys heq1 heq2
      injection heq1 with e1 e2
      injection heq2 with e3 e4
      subst e1 e2 e3 e4
      split at h
      · rename_i hk
        subst hk
        rw [Option.map_eq_some_iff] at h
        obtain ⟨b1, h1, h2⟩ := h
        simp only [crels] at hu hv
        obtain ⟨u, us', rfl, hu1, hu2⟩ := hu
        obtain ⟨v, vs', rfl, hv1, hv2⟩ := hv
        obtain ⟨q1, q2, q3, q4⟩ := eqCells_some h1 hu2 hv2
        simp only [crel, rep] at hu1 hv1
        obtain ⟨rfl, _⟩ := hu1
        obtain ⟨rfl, _⟩ := hv1
        have hsucc : ∀ i, valEq (Value.int k a :: us').toArray (Value.int k b' :: vs').toArray (i + 1) = valEq us'.toArray vs'.toArray i := fun i => by simp [valEq]
        refine ⟨by simp [q1], by simp [q2], fun i hi => ?_, ?_⟩
        · cases i with
          | zero => exact ⟨k, a, b', by simp, by simp⟩
          | succ i =>
            obtain ⟨k2, a2, b2, r1, r2⟩ := q3 i (by simpa using hi)
            exact ⟨k2, a2, b2, by simpa using r1, by simpa using r2⟩
        · rw [← h2, q4, List.length_cons, List.range_succ_eq_map, List.all_cons, List.all_map]
          have h0 : valEq (Value.int k a :: us').toArray (Value.int k b' :: vs').toArray 0 = decide (a = b') := by simp [valEq]; rfl
          rw [h0]
          congr 2
          funext i
          exact (hsucc i).symm
      · cases h
    · cases h
  | [], d :: ds, us, vs, b, h, _, _ => by simp [eqCells] at h
  | c :: cs, [], us, vs, b, h, _, _ => by
    unfold eqCells at h
    split at h <;> simp_all

theorem eqa_sound {op : BinOp} {t yt : TypeId} {x y : Operand} {neg : Bool} {n : Nat} (ho : o.op = .binOp op t x y yt) (hop : (op = .eql ∧ neg = false) ∨ (op = .neq ∧ neg = true)) (hf : flatTy P t = some n) (hg : P.eqGuardType P.depth t = false)
    {vx vy v : V} (hx : vrel g w r.st vx (a.eval x)) (hy : vrel g w r.st vy (a.eval y)) (h : aeqa n neg vx vy = some v) :
    ∃ u, (execOp a.eval o).run P w = .ok (.value u) w ∧ vrel g w r.st v u := by
  unfold aeqa at h
  split at h
  · rename_i cs ds
    split at h
    · rename_i hn
      rw [Option.map_eq_some_iff] at h
      obtain ⟨b, h1, h2⟩ := h
      subst h2
      simp only [vrel] at hx hy
      obtain ⟨us, hux, hcx⟩ := hx
      obtain ⟨vs, huy, hcy⟩ := hy
      obtain ⟨q1, q2, q3, q4⟩ := eqCells_some h1 hcx hcy
      rw [hn] at q3 q4
      have hrun := flat_run (w := w) hf (xs := us) (ys := vs) (by simpa using q3)
      have hguard := run_eqGuard_agg (P := P) w op t x y us vs hg
      have q4' : b = (List.range n).all (valEq us vs) := by simpa using q4
      rcases hop with ⟨rfl, rfl⟩ | ⟨rfl, rfl⟩
      · refine ⟨.bool b, ?_, vrel_lit_mk (v := .bool b) rfl⟩
        unfold execOp
        simp only [ho, hux, huy]
        simp [hguard, run_eql_struct, hrun, q4']
      · refine ⟨.bool (!b), ?_, vrel_lit_mk (v := .bool (!b)) rfl⟩
        unfold execOp
        simp only [ho, hux, huy]
        simp [hguard, run_neq_struct, hrun, q4']
    · cases h
  · cases h

theorem run_eq_ptr_nil {t e : TypeId} (ht : P.underlying t = some (.pointer e)) (p : Option Addr) : (Op.equal t (.pointer p) (.pointer none)).run P w = .ok p.isNone w := by
  unfold Op.equal Op.maxDepth Op.equalIn
  cases p <;> simp [run_underlying ht]
theorem pnil_sound {op : BinOp} {t e yt : TypeId} {x : Operand} {neg : Bool} (ho : o.op = .binOp op t x (.const (.pointer none)) yt) (hop : (op = .eql ∧ neg = false) ∨ (op = .neq ∧ neg = true)) (ht : P.underlying t = some (.pointer e))
    {vx v : V} (hx : vrel g w r.st vx (a.eval x)) (h : apnil neg vx = some v) :
    ∃ u, (execOp a.eval o).run P w = .ok (.value u) w ∧ vrel g w r.st v u := by
  have key : ∀ p : Option Addr, a.eval x = .pointer p → ∃ u, (execOp a.eval o).run P w = .ok (.value u) w ∧ vrel g w r.st (vbool (if neg then !p.isNone else p.isNone)) u := fun p ex => by
    have hr := run_eq_ptr_nil (P := P) (w := w) ht p
    have ec : a.eval (.const (.pointer none)) = .pointer none := rfl
    rcases hop with ⟨rfl, rfl⟩ | ⟨rfl, rfl⟩
    · refine ⟨.bool p.isNone, ?_, vrel_lit_mk (v := .bool p.isNone) rfl⟩
      unfold execOp
      simp only [ho, ex]
      simp [eqGuard, binOp, ec, hr]
    · refine ⟨.bool (!p.isNone), ?_, vrel_lit_mk (v := .bool (!p.isNone)) rfl⟩
      unfold execOp
      simp only [ho, ex]
      simp [eqGuard, binOp, ec, hr]
  unfold apnil at h
  split at h
  · injection h with h
    subst h
    simp only [vrel, crel] at hx
    obtain ⟨_, _, _, _, _, _, ad, e⟩ := hx
    have := key _ e
    cases neg <;> exact this
  · injection h with h
    subst h
    simp only [vrel, crel] at hx
    obtain ⟨_, _, e, _⟩ := hx
    have := key _ e
    cases neg <;> exact this
  · injection h with h
    subst h
    have := key none (vrel_lit hx).1
    cases neg <;> exact this
  · cases h
theorem beq_sound {op : BinOp} {t yt : TypeId} {x y : Operand} {neg : Bool} (ho : o.op = .binOp op t x y yt) (hop : (op = .eql ∧ neg = false) ∨ (op = .neq ∧ neg = true)) (ht : P.underlying t = some .bool)
    {vx vy v : V} (hx : vrel g w r.st vx (a.eval x)) (hy : vrel g w r.st vy (a.eval y)) (h : abeq neg vx vy = some v) :
    ∃ u, (execOp a.eval o).run P w = .ok (.value u) w ∧ vrel g w r.st v u := by
  unfold abeq at h
  split at h
  · rename_i p q
    obtain ⟨ex, _⟩ := vrel_lit hx
    obtain ⟨ey, _⟩ := vrel_lit hy
    injection h with h
    subst h
    have hr := run_equal_bool (P := P) w t p q ht
    rcases hop with ⟨rfl, rfl⟩ | ⟨rfl, rfl⟩
    · refine ⟨.bool (p == q), ?_, vrel_lit_mk (v := .bool (p == q)) rfl⟩
      unfold execOp
      simp only [ho, ex, ey]
      simp [eqGuard, binOp, hr]
    · refine ⟨.bool (!(p == q)), ?_, vrel_lit_mk (v := .bool (!(p == q))) rfl⟩
      unfold execOp
      simp only [ho, ex, ey]
      simp [eqGuard, binOp, hr]
  · cases h
end
end Go.A
