/- Operations that leave memory alone. -/
import Derived.Test.YtecjccggbbbaaaaGreatSoundA
import Derived.Laws.Small
import Derived.ChangeKeysEq
import Derived.Deep.MidRow
import Derived.Laws.AppendOwn
import Derived.Laws.MakeOwn
set_option linter.unusedVariables false
set_option linter.unusedSimpArgs false
namespace Go.A

def szOf (P : Program) (t : TypeId) : Option Nat := (P.info? t).map (·.size)
def aggTy (P : Program) (t : TypeId) : Option Bool := (P.underlying t).map fun d => match d with
  | .struct _ | .array _ _ => true
  | _ => false
def elemTy (P : Program) (t : TypeId) : Option TypeId := match P.underlying t with
  | some (.slice e) => some e
  | _ => none

/-- What may be taken for granted behind an operation. -/
def After (κ : List Tmp) (loc : List (Option Tmp)) (nt : Nat) (g : G) (w : World) (r r' : R) (next : Act → World → Prop) : Prop :=
  ∀ g' w' a', Ext g w r.st g' w' r'.st → Rel g' w' r'.st → Fr κ loc nt g' w' r' a' → next a' w'

section
variable {P : Program} {κ : List Tmp} {loc : List (Option Tmp)} {nt : Nat} {g : G} {w : World} {r r' : R} {a : Act} {o : Go.Oper} {d : D} {next : Act → World → Prop} {Q : Exit → Act → World → Prop}

theorem wp_value {u : Value} {w' : World} (h : (execOp a.eval o).run P w = .ok (.value u) w') (k : next (a.put o.dst u) w') : o.wp P a w next Q := by
  unfold Oper.wp
  rw [h]
  exact k
theorem wp_skip' {w' : World} (h : (execOp a.eval o).run P w = .ok .skip w') (k : next (a.put o.dst undef) w') : o.wp P a w next Q := by
  unfold Oper.wp
  rw [h]
  exact k

/-- A result, and all else as it was. -/
theorem pure_op (R0 : Rel g w r.st) (F : Fr κ loc nt g w r a) (hd : okD κ nt o.dst d = true) {v : V} {u : Value} (hrun : (execOp a.eval o).run P w = .ok (.value u) w) (hv : vrel g w r.st v u)
    (k : After κ (locOf o.dst d :: loc) nt g w r (r.put d v) next) : o.wp P a w next Q := by
  refine wp_value hrun (k g w _ ?_ ?_ (F.put hd fun _ => hv))
  · have : (r.put d v).st = r.st := by cases d <;> rfl
    rw [this]
    exact Ext.refl _ _ _
  · have : (r.put d v).st = r.st := by cases d <;> rfl
    rw [this]
    exact R0

theorem put_st (r : R) (d : D) (v : V) : (r.put d v).st = r.st := by cases d <;> rfl

/-- What a value of the machine's is, when memory's value is known; and back. -/
theorem vrel_lit {σ : Store} {v u : Value} (h : vrel g w σ (.one (.f (.lit v))) u) : u = v ∧ scal v = true := by
  simpa only [vrel, crel, rep] using h
theorem vrel_lit_mk {σ : Store} {v : Value} (h : scal v = true) : vrel g w σ (.one (.f (.lit v))) v := by
  rw [vrel, crel, rep]
  exact ⟨rfl, h⟩

theorem run_execOp_bin (op : BinOp) (t : TypeId) (x y : Operand) (yt : TypeId) (ho : o.op = .binOp op t x y yt) {k k' : IntKind} {m n : Int} (hx : a.eval x = .int k m) (hy : a.eval y = .int k' n) :
    (execOp a.eval o).run P w = ((do let v ← binOp op t (.int k m) (.int k' n); pure (Next.value v) : Sem Next)).run P w := by
  unfold execOp
  simp only [ho, hx, hy, eqGuard]
  cases op <;> simp

theorem abin_sound {op : BinOp} {t : TypeId} {x y : Operand} {yt : TypeId} (ho : o.op = .binOp op t x y yt) {vx vy v : V} (hx : vrel g w r.st vx (a.eval x)) (hy : vrel g w r.st vy (a.eval y)) (h : abin op vx vy = some v) :
    ∃ u, (execOp a.eval o).run P w = .ok (.value u) w ∧ vrel g w r.st v u := by
  unfold abin at h
  split at h
  · rename_i k m k' n
    obtain ⟨ex, _⟩ := vrel_lit hx
    obtain ⟨ey, _⟩ := vrel_lit hy
    rw [run_execOp_bin op t x y yt ho ex ey]
    split at h
    · rename_i hs
      unfold ashift at h
      split at h
      · rename_i h0
        have h0' : ¬ n < 0 := by omega
        cases op <;> simp [isShift] at hs <;> simp only [Option.some.injEq] at h <;> subst h <;>
          exact ⟨_, by simp [binOp, Op.shift, h0'], vrel_lit_mk rfl⟩
      · cases h
    · rename_i hs
      split at h
      · rename_i hk
        subst hk
        unfold aint at h
        cases op <;> simp [isShift] at hs <;> simp only at h
        case quo =>
          split at h
          · cases h
          · rename_i h0
            injection h with h
            subst h
            exact ⟨_, by simp [binOp, Op.intDiv, h0], vrel_lit_mk rfl⟩
        case rem =>
          split at h
          · cases h
          · rename_i h0
            injection h with h
            subst h
            exact ⟨_, by simp [binOp, Op.intDiv, h0], vrel_lit_mk rfl⟩
        case andNot => cases h
        all_goals
          injection h with h
          subst h
          refine ⟨_, ?_, vrel_lit_mk rfl⟩
          simp [binOp, Op.intArith, Op.intBits, Op.intCmp]
        all_goals (by_cases e : m = n <;> simp [e])
      · cases h
  · cases h

theorem mv_sound {x : Operand} (ho : o.op = .move x ∨ o.op = .assign x) : (execOp a.eval o).run P w = .ok (.value (a.eval x)) w := by
  unfold execOp
  rcases ho with ho | ho <;> simp [ho]

theorem pick_sound {c x y : Operand} (ho : o.op = .pick c x y) {vc vx vy v : V} (hc : vrel g w r.st vc (a.eval c)) (hx : vrel g w r.st vx (a.eval x)) (hy : vrel g w r.st vy (a.eval y)) (h : apick vx vy vc = some v) :
    ∃ u, (execOp a.eval o).run P w = .ok (.value u) w ∧ vrel g w r.st v u := by
  unfold apick at h
  split at h
  · rename_i t
    obtain ⟨ec, _⟩ := vrel_lit hc
    injection h with h
    subst h
    refine ⟨if t then a.eval x else a.eval y, ?_, ?_⟩
    · unfold execOp
      simp [ho, ec, asBool]
    · cases t
      · simpa using hy
      · simpa using hx
  · cases h

theorem aun_sound {op : UnOp} {t : TypeId} {x : Operand} (ho : o.op = .unOp op t x) {vx v : V} (hx : vrel g w r.st vx (a.eval x)) (h : aun op vx = some v) :
    ∃ u, (execOp a.eval o).run P w = .ok (.value u) w ∧ vrel g w r.st v u := by
  unfold aun at h
  split at h
  · obtain ⟨ex, _⟩ := vrel_lit hx
    injection h with h
    subst h
    exact ⟨_, by unfold execOp; simp [ho, ex, Op.unary], vrel_lit_mk rfl⟩
  · obtain ⟨ex, _⟩ := vrel_lit hx
    injection h with h
    subst h
    exact ⟨_, by unfold execOp; simp [ho, ex, Op.unary, Op.intArith], vrel_lit_mk rfl⟩
  · cases h

theorem conv_sound {k : IntKind} {s t : TypeId} {x : Operand} (ho : o.op = .convert s t x) (hs : (P.underlying s).isSome = true) (ht : P.underlying t = some (.int k)) {vx v : V} (hx : vrel g w r.st vx (a.eval x)) (h : aconv k vx = some v) :
    ∃ u, (execOp a.eval o).run P w = .ok (.value u) w ∧ vrel g w r.st v u := by
  unfold aconv at h
  split at h
  · obtain ⟨ex, _⟩ := vrel_lit hx
    injection h with h
    subst h
    obtain ⟨ds, hs⟩ := Option.isSome_iff_exists.1 hs
    exact ⟨_, by unfold execOp; simp [ho, ex, convert, run_underlying hs, run_underlying ht, Conv.intToInt], vrel_lit_mk rfl⟩
  · cases h

theorem vrel_sl {σ : Store} {xs : List (List Fz)} {u : Value} (h : vrel g w σ (.one (.f (.sl xs))) u) : rep w g.N (.sl xs) u := by simpa only [vrel, crel] using h
theorem vrel_ap {σ : Store} {t k : Nat} {xs : List (List Fz)} {u : Value} (h : vrel g w σ (.one (.ap t k xs)) u) : rep w g.N (.sl xs) u := by
  simp only [vrel, crel] at h
  exact h.1
theorem rep_slice {N : Cells} {xs : List (List Fz)} {u : Value} (h : rep w N (.sl xs) u) : ∃ a c, u = .slice a xs.length c ∧ xs.length ≤ c := by
  simp only [rep] at h
  obtain ⟨a, c, _, e, hc, _⟩ := h
  exact ⟨a, c, e, hc⟩
/-- An owned row that is looked at has the version that it had. -/
theorem vrel_own {σ : Store} {id ver lo n : Nat} {u : Value} (h : vrel g w σ (.one (.own id ver lo n)) u) {sz : Nat} {es : List (List C)} (ho : σ[id]? = some (.cells ver sz es)) : ownRel w (g.ρ id) sz es.length lo n u := by
  simp only [vrel, crel] at h
  obtain ⟨v0, sz0, len, h1, _, h3, _⟩ := h
  rw [shapeOf_of ho] at h1
  injection h1 with h1
  injection h1 with e1 h1
  injection h1 with e2 e3
  subst e1 e2 e3
  exact h3 rfl

theorem vrel_slice {σ : Store} {v : V} {u : Value} {n : V} (h : vrel g w σ v u) (hv : alen v = some n) : ∃ b k c, u = .slice b k c ∧ n = vint .i64 k := by
  unfold alen at hv
  split at hv
  · simp only [vrel, crel] at h
    obtain ⟨_, _, _, _, _, _, b, c, e⟩ := h
    injection hv with hv
    exact ⟨b, _, c, e, hv.symm⟩
  · obtain ⟨b, c', e, _⟩ := rep_slice (vrel_sl h)
    injection hv with hv
    exact ⟨b, _, c', e, hv.symm⟩
  · obtain ⟨b, c', e, _⟩ := rep_slice (vrel_ap h)
    injection hv with hv
    exact ⟨b, _, c', e, hv.symm⟩
  · cases hv

theorem len_sound {t : TypeId} {x : Operand} {c : Go.Call} (ho : o.op = .call c) (hc : c.callee = .builtin .len) (hx' : c.args = #[x]) (ht' : c.argTypes = #[t]) {e : TypeId} (ht : P.underlying t = some (.slice e))
    {vx v : V} (hx : vrel g w r.st vx (a.eval x)) (h : alen vx = some v) :
    ∃ u, (execOp a.eval o).run P w = .ok (.value u) w ∧ vrel g w r.st v u := by
  obtain ⟨b, k, c', e, rfl⟩ := vrel_slice hx h
  refine ⟨.int .i64 k, ?_, vrel_lit_mk rfl⟩
  unfold execOp
  simp [ho, resolve, hc, hx', ht', e, invoke, builtin, Builtin.len_, run_underlying ht, goInt]

theorem lens_sound {t : TypeId} {x : Operand} {c : Go.Call} (ho : o.op = .call c) (hc : c.callee = .builtin .len) (hx' : c.args = #[x]) (ht' : c.argTypes = #[t]) (ht : P.underlying t = some .string)
    {vx v : V} (hx : vrel g w r.st vx (a.eval x)) (h : alens vx = some v) :
    ∃ u, (execOp a.eval o).run P w = .ok (.value u) w ∧ vrel g w r.st v u := by
  unfold alens at h
  split at h
  · rename_i s
    obtain ⟨ex, _⟩ := vrel_lit hx
    injection h with h
    subst h
    refine ⟨.int .i64 s.size, ?_, vrel_lit_mk rfl⟩
    unfold execOp
    simp [ho, resolve, hc, hx', ht', ex, invoke, builtin, Builtin.len_, run_underlying ht, goInt]
  · cases h

theorem run_fieldAt {t : TypeId} {fs : Array Field} {i : Nat} {f : Field} {ad : Addr} {n : Nat} (ht : P.underlying t = some (.struct fs)) (hf : fs[i]? = some f) (hs : szOf P f.type = some n) (hn : n ≠ 0) :
    (Instr.fieldAt t (.pointer (some ad)) i).run P w = .ok (.pointer (some (ad.add f.offset))) w := by
  unfold szOf at hs
  cases hq : P.info? f.type with
  | none => simp [hq] at hs
  | some inf =>
    have hsz : inf.size = n := by simpa [hq] using hs
    simp [Instr.fieldAt, run_underlying ht, hf, Instr.sureAddr, fieldPlace, sizeOf, typeInfo, hq, hsz, hn]

theorem add_plain' (b o j : Nat) : (⟨b, o, none⟩ : Addr).add j = ⟨b, o + j, none⟩ := by unfold Addr.add; split <;> simp_all

theorem fa_sound {t : TypeId} {x : Operand} {i n off : Nat} {fs : Array Field} {f : Field} (ho : o.op = .fieldAddr t x i) (ht : P.underlying t = some (.struct fs)) (hf : fs[i]? = some f) (hs : szOf P f.type = some n) (hn : n ≠ 0) (hoff : f.offset = off)
    {vx v : V} (hx : vrel g w r.st vx (a.eval x)) (h : afa off vx = some v) :
    ∃ u, (execOp a.eval o).run P w = .ok (.value u) w ∧ vrel g w r.st v u := by
  have key : ∀ ad, a.eval x = .pointer (some ad) → (execOp a.eval o).run P w = .ok (.value (.pointer (some (ad.add off)))) w := fun ad e => by
    unfold execOp
    simp only [ho, e]
    simp [run_fieldAt (w := w) (ad := ad) ht hf hs hn, hoff]
  unfold afa at h
  split at h
  · rename_i id ver j o'
    injection h with h
    subst h
    simp only [vrel, crel] at hx
    obtain ⟨v0, sz, len, h1, h2, h3, ad, h4⟩ := hx
    refine ⟨_, key ad h4, ?_⟩
    simp only [vrel, crel]
    refine ⟨v0, sz, len, h1, h2, fun e => ?_, _, rfl⟩
    have := h3 e
    rw [h4] at this
    injection this with this
    injection this with this
    rw [this, add_plain', Nat.add_assoc]
  · rename_i cs o'
    injection h with h
    subst h
    simp only [vrel, crel] at hx
    obtain ⟨b, oo, h1, h2⟩ := hx
    refine ⟨_, key _ h1, ?_⟩
    simp only [vrel, crel]
    exact ⟨b, oo, by rw [add_plain', Nat.add_assoc], h2⟩
  · cases h

theorem run_indexAt {t e : TypeId} {k : IntKind} {n : Int} {ad : Addr} {len cap sz : Nat} (ht : P.underlying t = some (.slice e)) (hs : szOf P e = some sz) (h0 : 0 ≤ n) (h1 : n < len) :
    (Instr.indexAt t (.slice (some ad) len cap) (.int k n)).run P w = .ok (.pointer (some (ad.add (n.toNat * sz)))) w := by
  unfold szOf at hs
  cases hq : P.info? e with
  | none => simp [hq] at hs
  | some inf =>
    have hsz : inf.size = sz := by simpa [hq] using hs
    simp [Instr.indexAt, asIntOf, run_underlying ht, h0, h1, sizeOf, typeInfo, hq, hsz]
theorem run_indexAtArr {t e : TypeId} {k : IntKind} {n : Int} {ad : Addr} {len sz : Nat} (ht : P.underlying t = some (.array len e)) (hs : szOf P e = some sz) (h0 : 0 ≤ n) (h1 : n < len) :
    (Instr.indexAt t (.pointer (some ad)) (.int k n)).run P w = .ok (.pointer (some (ad.add (n.toNat * sz)))) w := by
  unfold szOf at hs
  cases hq : P.info? e with
  | none => simp [hq] at hs
  | some inf =>
    have hsz : inf.size = sz := by simpa [hq] using hs
    simp [Instr.indexAt, asIntOf, run_underlying ht, h0, h1, sizeOf, typeInfo, hq, hsz, Instr.sureAddr]

theorem isRow_some {ver sz : Nat} {ob : Ob} (h : ob.isRow ver sz = true) : ∃ es, ob = .cells ver sz es := by
  unfold Ob.isRow at h
  split at h
  · simp at h
    obtain ⟨rfl, rfl⟩ := h
    exact ⟨_, rfl⟩
  · cases h

theorem ia_frozen {t e : TypeId} {x i : Operand} {sz : Nat} (ho : o.op = .indexAddr t x i) (ht : P.underlying t = some (.slice e)) (hs : szOf P e = some sz) {xs : List (List Fz)} {k : IntKind} {n : Int} (hx : rep w g.N (.sl xs) (a.eval x)) (hi : a.eval i = .int k n)
    {v : V} (h0 : 0 ≤ n) (h : (xs[n.toNat]?).bind (ckSz sz) = some v) : ∃ u, (execOp a.eval o).run P w = .ok (.value u) w ∧ vrel g w r.st v u := by
  rw [Option.bind_eq_some_iff] at h
  obtain ⟨el, h1, h2⟩ := h
  unfold ckSz at h2
  split at h2
  · rename_i hel
    injection h2 with h2
    subst h2
    simp only [rep] at hx
    obtain ⟨ad, c, sz', e1, e2, e3, e4⟩ := hx
    rcases e4 with rfl | ⟨b, oo, rfl, e4⟩
    · simp at h1
    · have hlt := lt_of_some h1
      have hsz : sz' = sz := by rw [← lenAll_get e3 h1, hel]
      subst hsz
      refine ⟨.pointer (some ⟨b, oo + n.toNat * sz', none⟩), ?_, ?_⟩
      · unfold execOp
        simp only [ho, e1, hi]
        simp [run_indexAt (w := w) (ad := ⟨b, oo, none⟩) (cap := c) ht hs h0 (by omega : n < (xs.length : Int)), add_plain']
      · simp only [vfp, vrel, crel]
        exact ⟨b, oo + n.toNat * sz', rfl, repRows_get e4 h1⟩
  · cases h2

theorem ia_sound {t e : TypeId} {x i : Operand} {sz : Nat} (ho : o.op = .indexAddr t x i) (ht : P.underlying t = some (.slice e)) (hs : szOf P e = some sz)
    {vx vi v : V} (hx : vrel g w r.st vx (a.eval x)) (hi : vrel g w r.st vi (a.eval i)) (h : aia r.st sz vx vi = some v) :
    ∃ u, (execOp a.eval o).run P w = .ok (.value u) w ∧ vrel g w r.st v u := by
  unfold aia at h
  split at h
  · rename_i id ver lo n k m
    obtain ⟨ei, _⟩ := vrel_lit hi
    split at h
    · rename_i hm
      rw [Option.bind_eq_some_iff] at h
      obtain ⟨ob, h1, h2⟩ := h
      unfold aiaRow at h2
      split at h2
      · rename_i hrow
        injection h2 with h2
        subst h2
        obtain ⟨es, rfl⟩ := isRow_some hrow
        obtain ⟨ad, c, e1, e2, e3, e4⟩ := vrel_own hx h1
        have hne : es.length ≠ 0 := fun h0 => by have := e3 h0; omega
        obtain ⟨f1, f2, _⟩ := e4 hne
        have f3 := f2 (by omega)
        subst f3
        refine ⟨.pointer (some ⟨g.ρ id, lo * sz + m.toNat * sz, none⟩), ?_, ?_⟩
        · unfold execOp
          simp only [ho, e1, ei]
          simp [run_indexAt (w := w) (ad := ⟨g.ρ id, lo * sz, none⟩) (cap := c) ht hs hm.1 hm.2, add_plain']
        · simp only [vrel, crel]
          exact ⟨ver, sz, es.length, shapeOf_of h1, Nat.le_refl _, fun _ => by rw [Nat.add_mul, Nat.add_zero], _, rfl⟩
      · cases h2
    · cases h
  · obtain ⟨ei, _⟩ := vrel_lit hi
    split at h
    · rename_i h0
      exact ia_frozen ho ht hs (vrel_sl hx) ei h0 h
    · cases h
  · obtain ⟨ei, _⟩ := vrel_lit hi
    split at h
    · rename_i h0
      exact ia_frozen ho ht hs (vrel_ap hx) ei h0 h
    · cases h
  · cases h

theorem iaa_sound {t e : TypeId} {x i : Operand} {len sz : Nat} (ho : o.op = .indexAddr t x i) (ht : P.underlying t = some (.array len e)) (hs : szOf P e = some sz)
    {vx vi v : V} (hx : vrel g w r.st vx (a.eval x)) (hi : vrel g w r.st vi (a.eval i)) (h : aiaa len sz vx vi = some v) :
    ∃ u, (execOp a.eval o).run P w = .ok (.value u) w ∧ vrel g w r.st v u := by
  have key : ∀ ad k m, a.eval x = .pointer (some ad) → a.eval i = .int k m → 0 ≤ m ∧ m < len → (execOp a.eval o).run P w = .ok (.value (.pointer (some (ad.add (m.toNat * sz))))) w := fun ad k m e e' hm => by
    unfold execOp
    simp only [ho, e, e']
    simp [run_indexAtArr (w := w) (ad := ad) ht hs hm.1 hm.2]
  unfold aiaa at h
  split at h
  · obtain ⟨ei, _⟩ := vrel_lit hi
    split at h
    · rename_i hm
      injection h with h
      subst h
      simp only [vrel, crel] at hx
      obtain ⟨v0, sz0, len0, h1, h2, h3, ad, h4⟩ := hx
      refine ⟨_, key ad _ _ h4 ei hm, ?_⟩
      simp only [vrel, crel]
      refine ⟨v0, sz0, len0, h1, h2, fun e => ?_, _, rfl⟩
      have := h3 e
      rw [h4] at this
      injection this with this
      injection this with this
      rw [this, add_plain', Nat.add_assoc]
    · cases h
  · obtain ⟨ei, _⟩ := vrel_lit hi
    split at h
    · rename_i hm
      injection h with h
      subst h
      simp only [vrel, crel] at hx
      obtain ⟨b, oo, h1, h2⟩ := hx
      refine ⟨_, key _ _ _ h1 ei hm, ?_⟩
      simp only [vrel, crel]
      exact ⟨b, oo, by rw [add_plain', Nat.add_assoc], h2⟩
    · cases h
  · cases h
end
end Go.A

/- More operations that leave memory alone: slices of slices, parts, function values; loads. -/
namespace Go.A
section
variable {P : Program} {κ : List Tmp} {loc : List (Option Tmp)} {nt : Nat} {g : G} {w : World} {r r' : R} {a : Act} {o : Go.Oper} {d : D} {next : Act → World → Prop} {Q : Exit → Act → World → Prop}

theorem natOf_some {v : V} {u : Value} {n : Nat} {σ : Store} (hv : vrel g w σ v u) (h : natOf v = some n) : ∃ k, u = .int k (n : Int) := by
  unfold natOf at h
  split at h
  · rename_i k m
    split at h
    · injection h with h
      obtain ⟨e, _⟩ := vrel_lit hv
      exact ⟨k, by rw [e, ← h, Int.toNat_of_nonneg (by assumption)]⟩
    · cases h
  · cases h
theorem run_sliceBound {k : IntKind} {n y : Nat} (c : BoundsCode) (h : n ≤ y) : (Instr.sliceBound (.int k n) y c).run P w = .ok n w := by
  have h1 : (n : Int) ≤ (y : Int) := by omega
  simp [Instr.sliceBound, asIntOf, h1]

/-- The three bounds. -/
theorem run_sliceBounds (b : Bool) {len cap lo hi : Nat} {vlo vhi vmx : Option Value} (hlo : (vlo = none ∧ lo = 0) ∨ ∃ k, vlo = some (.int k lo)) (hhi : (vhi = none ∧ vmx = none ∧ hi = len) ∨ ∃ k, vhi = some (.int k hi))
    (hmx : vmx = none ∨ vmx = vhi) (h1 : lo ≤ hi) (h2 : hi ≤ cap) :
    (Instr.sliceBounds b len cap vlo vhi vmx).run P w = .ok (lo, hi, if vmx.isSome then hi else cap) w := by
  rcases hmx with rfl | rfl
  · rcases hhi with ⟨rfl, _, rfl⟩ | ⟨k, rfl⟩
    · rcases hlo with ⟨rfl, rfl⟩ | ⟨k', rfl⟩
      · simp [Instr.sliceBounds]
      · simp [Instr.sliceBounds, run_sliceBound _ h1]
    · rcases hlo with ⟨rfl, rfl⟩ | ⟨k', rfl⟩
      · simp [Instr.sliceBounds, run_sliceBound _ h2]
      · simp [Instr.sliceBounds, run_sliceBound _ h1, run_sliceBound _ h2]
  · rcases hhi with ⟨rfl, _, rfl⟩ | ⟨k, rfl⟩
    · rcases hlo with ⟨rfl, rfl⟩ | ⟨k', rfl⟩
      · simp [Instr.sliceBounds]
      · simp [Instr.sliceBounds, run_sliceBound _ h1]
    · rcases hlo with ⟨rfl, rfl⟩ | ⟨k', rfl⟩
      · simp [Instr.sliceBounds, run_sliceBound _ h2, run_sliceBound _ (Nat.le_refl hi)]
      · simp [Instr.sliceBounds, run_sliceBound _ h1, run_sliceBound _ h2, run_sliceBound _ (Nat.le_refl hi)]

theorem run_sliceAt {t e : TypeId} {len cap lo hi sz : Nat} {ad : Option Addr} {vlo vhi vmx : Option Value} (ht : P.underlying t = some (.slice e)) (hs : szOf P e = some sz) (hlo : (vlo = none ∧ lo = 0) ∨ ∃ k, vlo = some (.int k lo)) (hhi : (vhi = none ∧ vmx = none ∧ hi = len) ∨ ∃ k, vhi = some (.int k hi))
    (hmx : vmx = none ∨ vmx = vhi) (h1 : lo ≤ hi) (h2 : hi ≤ cap) :
    (Instr.sliceAt t (.slice ad len cap) vlo vhi vmx).run P w = .ok (.slice (if (if vmx.isSome then hi else cap) = lo then ad else ad.map (·.add (lo * sz))) (hi - lo) ((if vmx.isSome then hi else cap) - lo)) w := by
  unfold szOf at hs
  cases hq : P.info? e with
  | none => simp [hq] at hs
  | some inf =>
    have hsz : inf.size = sz := by simpa [hq] using hs
    simp [Instr.sliceAt, Instr.slice, run_underlying ht, run_sliceBounds (w := w) (P := P) true hlo hhi hmx h1 h2, sizeOf, typeInfo, hq, hsz]
theorem run_sliceAtStr {t : TypeId} {lo hi : Nat} {s : ByteArray} {vlo vhi : Option Value} (ht : P.underlying t = some .string) (hlo : (vlo = none ∧ lo = 0) ∨ ∃ k, vlo = some (.int k lo)) (hhi : (vhi = none ∧ hi = s.size) ∨ ∃ k, vhi = some (.int k hi))
    (h1 : lo ≤ hi) (h2 : hi ≤ s.size) :
    (Instr.sliceAt t (.string s) vlo vhi none).run P w = .ok (.string (s.extract lo hi)) w := by
  have := run_sliceBounds (w := w) (P := P) false (len := s.size) (cap := s.size) (vmx := none) hlo (hhi.imp (fun h => ⟨h.1, rfl, h.2⟩) id) (.inl rfl) h1 h2
  simp [Instr.sliceAt, Instr.slice, run_underlying ht, this]

/-- A piece of a frozen slice. -/
theorem rep_piece {N : Cells} {xs : List (List Fz)} {ad : Option Addr} {c lo hi m sz : Nat} (h : rep w N (.sl xs) (.slice ad xs.length c)) (hsz : ∀ e ∈ xs, e.length = sz) (h1 : lo ≤ hi) (h2 : hi ≤ xs.length) (hm : hi ≤ m) :
    rep w N (.sl ((xs.take hi).drop lo)) (.slice (if m = lo then ad else ad.map (·.add (lo * sz))) (hi - lo) (m - lo)) := by
  have hlen : ((xs.take hi).drop lo).length = hi - lo := by simp; omega
  simp only [rep] at h ⊢
  obtain ⟨ad', c', sz', e1, e2, e3, e4⟩ := h
  injection e1 with e1 _ _
  subst e1
  rw [hlen]
  refine ⟨_, _, sz, rfl, by omega, lenAll_of fun e he => hsz e (List.mem_of_mem_take (List.mem_of_mem_drop he)), ?_⟩
  by_cases hz : lo = hi
  · left
    exact List.eq_nil_of_length_eq_zero (by omega)
  · right
    have hne : m ≠ lo := by omega
    rw [if_neg hne]
    rcases e4 with rfl | ⟨b, oo, rfl, e4⟩
    · simp at h2; omega
    · have hzz : sz' = sz := by
        have h0 : 0 < xs.length := by omega
        rw [← lenAll_get e3 (List.getElem?_eq_getElem h0)]
        exact hsz _ (List.getElem_mem h0)
      subst hzz
      refine ⟨b, oo + lo * sz', by simp [add_plain'], repRows_of fun i e hi' => ?_⟩
      rw [List.getElem?_drop, List.getElem?_take] at hi'
      split at hi'
      · have := repRows_get e4 hi'
        rwa [Nat.add_mul, ← Nat.add_assoc] at this
      · cases hi'

theorem bound_some {loX : Option Go.Operand} {x : Option X} {dflt n : Nat} (hx : ∀ y, x = some y → ∃ y', loX = some y' ∧ vrel g w r.st (r.get y) (a.eval y')) (hn : x = none → loX = none) (h : bound r dflt x = some n) :
    (loX.map a.eval = none ∧ n = dflt) ∨ ∃ k, loX.map a.eval = some (.int k n) := by
  cases x with
  | none => simp [bound] at h; left; simp [hn rfl, h]
  | some y =>
    obtain ⟨y', e, hv⟩ := hx y rfl
    obtain ⟨k, hk⟩ := natOf_some hv h
    right
    exact ⟨k, by simp [e, hk]⟩

theorem two_some {f : Nat → Nat → Option V} {x y : Option Nat} {v : V} (h : two f x y = some v) : ∃ m n, x = some m ∧ y = some n ∧ f m n = some v := by
  unfold two at h
  split at h
  · exact ⟨_, _, rfl, rfl, h⟩
  · cases h

theorem okSz_all {sz : Nat} : ∀ {xs : List (List Fz)}, okSz sz xs = true → ∀ e ∈ xs, e.length = sz
  | [], _, e, he => by simp at he
  | x :: xs, h, e, he => by
    simp only [okSz, Bool.and_eq_true, decide_eq_true_eq] at h
    rcases List.mem_cons.1 he with rfl | he
    · exact h.1
    · exact okSz_all h.2 e he

/-- Operands that may be left out. -/
def Opt (g : G) (w : World) (r : R) (a : Act) (x : Option Operand) (y : Option X) : Prop := (∀ z, y = some z → ∃ z', x = some z' ∧ vrel g w r.st (r.get z) (a.eval z')) ∧ (y = none → x = none)

theorem slc_sound {t e : TypeId} {sz : Nat} {x : Operand} {lo hi mx : Option Operand} {lo' hi' : Option X} {third : Bool} (ho : o.op = .slice t x lo hi mx) (ht : P.underlying t = some (.slice e)) (hs : szOf P e = some sz)
    (hlo : Opt g w r a lo lo') (hhi : Opt g w r a hi hi') (hmx : (mx = none ∧ third = false) ∨ (third = true ∧ hi'.isSome = true ∧ mx.map a.eval = hi.map a.eval))
    {vx v : V} (hx : vrel g w r.st vx (a.eval x)) (h : aslc r sz lo' hi' third vx = some v) :
    ∃ u, (execOp a.eval o).run P w = .ok (.value u) w ∧ vrel g w r.st v u := by
  have key : ∀ {ad : Option Addr} {len cap l h' : Nat}, a.eval x = .slice ad len cap → bound r 0 lo' = some l → bound r len hi' = some h' → l ≤ h' → h' ≤ cap →
      ∃ m, h' ≤ m ∧ (third = false → m = cap) ∧ (execOp a.eval o).run P w = .ok (.value (.slice (if m = l then ad else ad.map (·.add (l * sz))) (h' - l) (m - l))) w := by
    intro ad len cap l h' ex hl hh h1 h2
    have b1 := bound_some (a := a) hlo.1 hlo.2 hl
    have b2 := bound_some (a := a) hhi.1 hhi.2 hh
    have bb : (hi.map a.eval = none ∧ mx.map a.eval = none ∧ h' = len) ∨ ∃ k, hi.map a.eval = some (.int k h') := by
      rcases b2 with ⟨b2, b3⟩ | b2
      · rcases hmx with ⟨rfl, _⟩ | ⟨_, hs', em⟩
        · exact .inl ⟨b2, rfl, b3⟩
        · exact .inl ⟨b2, by rw [em]; exact b2, b3⟩
      · exact .inr b2
    have bm : mx.map a.eval = none ∨ mx.map a.eval = hi.map a.eval := by
      rcases hmx with ⟨rfl, _⟩ | ⟨_, _, em⟩
      · exact .inl rfl
      · exact .inr em
    have hrun := run_sliceAt (P := P) (w := w) (ad := ad) ht hs b1 bb bm h1 h2
    refine ⟨if (mx.map a.eval).isSome = true then h' else cap, ?_, ?_, ?_⟩
    · split <;> omega
    · intro hf
      rcases hmx with ⟨rfl, _⟩ | ⟨h, _⟩
      · simp
      · rw [hf] at h; cases h
    · unfold execOp
      simp only [ho, ex, Sem.run_bind, hrun, Result.andThen_ok, Sem.run_pure]
  unfold aslc at h
  split at h
  · rename_i xs
    obtain ⟨l, h', hl, hh, h1⟩ := two_some h
    unfold slcTo at h1
    split at h1
    · rename_i hc
      injection h1 with h1
      subst h1
      have hr := vrel_sl hx
      obtain ⟨ad, c, e1, e2⟩ := rep_slice hr
      rw [e1] at hr
      obtain ⟨m, k1, _, k3⟩ := key e1 hl hh hc.1 (by omega)
      refine ⟨_, k3, ?_⟩
      simp only [vsl, vrel, crel]
      exact rep_piece hr (okSz_all hc.2.2) hc.1 hc.2.1 k1
    · cases h1
  · rename_i xs
    obtain ⟨l, h', hl, hh, h1⟩ := two_some h
    unfold slcTo at h1
    split at h1
    · rename_i hc
      injection h1 with h1
      subst h1
      have hr := vrel_ap hx
      obtain ⟨ad, c, e1, e2⟩ := rep_slice hr
      rw [e1] at hr
      obtain ⟨m, k1, _, k3⟩ := key e1 hl hh hc.1 (by omega)
      refine ⟨_, k3, ?_⟩
      simp only [vsl, vrel, crel]
      exact rep_piece hr (okSz_all hc.2.2) hc.1 hc.2.1 k1
    · cases h1
  · rename_i id ver l0 n
    split at h
    · cases h
    · rename_i hth
      obtain ⟨l, h', hl, hh, h1⟩ := two_some h
      unfold ownTo at h1
      split at h1
      · rename_i hc
        injection h1 with h1
        subst h1
        obtain ⟨c1, c2, c3⟩ := hc
        cases hob : r.st[id]? with
        | none => simp [hob] at c3
        | some ob =>
          simp [hob] at c3
          obtain ⟨es, rfl⟩ := isRow_some c3
          obtain ⟨ad, c, e1, e2, e3, e4⟩ := vrel_own hx hob
          obtain ⟨m, k1, k2, k3⟩ := key e1 hl hh c1 (by omega)
          have hm := k2 (by simpa using hth)
          subst hm
          refine ⟨_, k3, ?_⟩
          simp only [vrel, crel]
          refine ⟨ver, sz, es.length, shapeOf_of hob, Nat.le_refl _, fun _ => ⟨_, _, rfl, by omega, fun h0 => by have := e3 h0; omega, fun h0 => ?_⟩, _, _, rfl⟩
          obtain ⟨f1, f2, arr, ty, f3, f4⟩ := e4 h0
          refine ⟨by omega, fun hne => ?_, arr, ty, f3, ?_⟩
          · rw [if_neg (by omega), f2 (by omega)]
            simp [add_plain', Nat.add_mul]
          · have : (l0 + l + (m - l)) = l0 + m := by omega
            rw [this]; exact f4
      · cases h1
  · cases h

theorem slcs_sound {t : TypeId} {x : Operand} {lo hi : Option Operand} {lo' hi' : Option X} (ho : o.op = .slice t x lo hi none) (ht : P.underlying t = some .string)
    (hlo : Opt g w r a lo lo') (hhi : Opt g w r a hi hi') {vx v : V} (hx : vrel g w r.st vx (a.eval x)) (h : aslcs r lo' hi' vx = some v) :
    ∃ u, (execOp a.eval o).run P w = .ok (.value u) w ∧ vrel g w r.st v u := by
  unfold aslcs at h
  split at h
  · rename_i s
    obtain ⟨l, h', hl, hh, h1⟩ := two_some h
    unfold strTo at h1
    split at h1
    · rename_i hc
      injection h1 with h1
      subst h1
      obtain ⟨ex, _⟩ := vrel_lit hx
      refine ⟨_, ?_, vrel_lit_mk rfl⟩
      unfold execOp
      simp only [ho, ex]
      simp [run_sliceAtStr (P := P) (w := w) ht (bound_some (a := a) hlo.1 hlo.2 hl) (bound_some (a := a) hhi.1 hhi.2 hh) hc.1 hc.2]
    · cases h1
  · cases h

/-! ### Parts of values -/
theorem vrels_get {σ : Store} : ∀ {vs : List V} {us : List Value}, vrels g w σ vs us → ∀ {i : Nat} {v : V}, vs[i]? = some v → ∃ u, us[i]? = some u ∧ vrel g w σ v u
  | [], _, _, i, v, h => by simp at h
  | x :: vs, us, hr, i, v, h => by
    simp only [vrels] at hr
    obtain ⟨u, us', rfl, h2, h3⟩ := hr
    cases i with
    | zero => simp at h; subst h; exact ⟨u, by simp, h2⟩
    | succ i => simpa using vrels_get h3 (i := i) (v := v) (by simpa using h)

theorem ext_sound {x : Operand} {i : Nat} (ho : o.op = .extract x i) {vx v : V} (hx : vrel g w r.st vx (a.eval x)) (h : aext i vx = some v) :
    ∃ u, (execOp a.eval o).run P w = .ok (.value u) w ∧ vrel g w r.st v u := by
  unfold aext at h
  split at h
  · simp only [vrel] at hx
    obtain ⟨us, e, hr⟩ := hx
    obtain ⟨u, hu, hv⟩ := vrels_get hr h
    refine ⟨u, ?_, hv⟩
    have hu' : us[i]? = some u := by simpa using hu
    unfold execOp
    simp [ho, e, Instr.extract, hu']
  · cases h

theorem nil_sound {x : Operand} (ho : o.op = .nilCheck x) {vx v : V} (hx : vrel g w r.st vx (a.eval x)) (h : anil vx = some v) :
    ∃ u, (execOp a.eval o).run P w = .ok (.value u) w ∧ vrel g w r.st v u := by
  unfold anil at h
  split at h
  · injection h with h
    subst h
    refine ⟨a.eval x, ?_, hx⟩
    simp only [vrel, crel] at hx
    obtain ⟨_, _, _, _, _, _, ad, e⟩ := hx
    unfold execOp
    simp [ho, e]
  · injection h with h
    subst h
    refine ⟨a.eval x, ?_, hx⟩
    simp only [vrel, crel] at hx
    obtain ⟨_, _, e, _⟩ := hx
    unfold execOp
    simp [ho, e]
  · injection h with h
    subst h
    refine ⟨a.eval x, ?_, hx⟩
    simp only [vrel, crel] at hx
    obtain ⟨_, _, e, _⟩ := hx
    unfold execOp
    simp [ho, e]
  · cases h

theorem mxn_sound {b : Builtin} {isMax : Bool} {x y : Operand} {c : Go.Call} (ho : o.op = .call c) (hc : c.callee = .builtin b) (hb : b = if isMax then .max else .min) (hargs : c.args = #[x, y])
    {vx vy v : V} (hx : vrel g w r.st vx (a.eval x)) (hy : vrel g w r.st vy (a.eval y)) (h : amxn isMax vx vy = some v) :
    ∃ u, (execOp a.eval o).run P w = .ok (.value u) w ∧ vrel g w r.st v u := by
  unfold amxn at h
  split at h
  · rename_i k m k' n
    split at h
    · rename_i hk
      subst hk
      injection h with h
      subst h
      obtain ⟨ex, _⟩ := vrel_lit hx
      obtain ⟨ey, _⟩ := vrel_lit hy
      cases isMax
      · simp at hb
        subst hb
        refine ⟨.int k (min m n), ?_, vrel_lit_mk rfl⟩
        unfold execOp
        simp [ho, resolve, hc, hargs, ex, ey, invoke, builtin, Builtin.min_, Builtin.min2]
        omega
      · simp at hb
        subst hb
        refine ⟨.int k (max m n), ?_, vrel_lit_mk rfl⟩
        unfold execOp
        simp [ho, resolve, hc, hargs, ex, ey, invoke, builtin, Builtin.max_, Builtin.max2]
        omega
    · cases h
  · cases h
end
end Go.A

/- Loads; fields of values; function values. -/
namespace Go.A
section
variable {P : Program} {κ : List Tmp} {loc : List (Option Tmp)} {nt : Nat} {g : G} {w : World} {r r' : R} {a : Act} {o : Go.Oper} {d : D} {next : Act → World → Prop} {Q : Exit → Act → World → Prop}

theorem elem_some {σ : Store} {id ver i : Nat} {e : List C} (h : σ.elem id ver i = some e) : ∃ sz es, σ[id]? = some (.cells ver sz es) ∧ es[i]? = some e := by
  unfold Store.elem at h
  rw [Option.bind_eq_some_iff] at h
  obtain ⟨ob, h1, h2⟩ := h
  unfold Ob.elem at h2
  split at h2
  · rename_i ver' sz es
    split at h2
    · rename_i hv
      subst hv
      exact ⟨sz, es, h1, h2⟩
    · cases h2
  · cases h2

/-- The cells of an element, in memory. -/
theorem elem_cells (R0 : Rel g w r.st) {id ver i off : Nat} {e : List C} {u : Value} (he : r.st.elem id ver i = some e) (hx : vrel g w r.st (.one (.ptr id ver i off)) u) :
    ∃ b o us, u = .pointer (some ⟨b, o + off, none⟩) ∧ us.length = e.length ∧ crels g w r.st e us ∧ (∀ v ∈ us, v.oneCell' = true) ∧ ∀ j v, us[j]? = some v → w.cell? ⟨b, o + j, none⟩ = some v := by
  obtain ⟨sz, es, h1, h2⟩ := elem_some he
  have hne : es ≠ [] := fun h => by subst h; simp at h2
  obtain ⟨_, _, arr, t, h3, h4, h5⟩ := R0.ob id _ h1 hne
  simp only [vrel, crel] at hx
  obtain ⟨v0, sz0, len, k1, k2, k3, _⟩ := hx
  rw [shapeOf_of h1] at k1
  injection k1 with k1
  injection k1 with e1 k1
  injection k1 with e2 e3
  subst e1 e2 e3
  have hu := k3 rfl
  obtain ⟨hel, hcells⟩ := h5 i e h2
  refine ⟨g.ρ id, i * sz, (List.range e.length).map fun j => arr.getD (i * sz + j) undef, hu, by simp, crels_of (by simp) fun j c v hc hv => ?_, fun v hv => ?_, fun j v hv => ?_⟩
  · obtain ⟨u', k4, k5, _⟩ := hcells j c hc
    rw [List.getElem?_map, List.getElem?_range (lt_of_some hc)] at hv
    simp only [Option.map_some, Option.some.injEq] at hv
    rw [← hv]
    simp only [Array.getD_eq_getD_getElem?, k4, Option.getD_some]
    exact k5
  · rw [List.mem_map] at hv
    obtain ⟨j, hj, rfl⟩ := hv
    rw [List.mem_range] at hj
    obtain ⟨u', k4, _, k6⟩ := hcells j _ (List.getElem?_eq_getElem hj)
    simp only [Array.getD_eq_getD_getElem?, k4, Option.getD_some]
    exact k6
  · rw [List.getElem?_map] at hv
    have hj := hv
    cases hr : (List.range e.length)[j]? with
    | none => rw [hr] at hv; cases hv
    | some j' =>
      have hlt := lt_of_some hr
      simp at hlt
      rw [List.getElem?_range hlt] at hr
      injection hr with hr
      subst hr
      rw [List.getElem?_range hlt] at hv
      simp only [Option.map_some, Option.some.injEq] at hv
      obtain ⟨u', k4, _, _⟩ := hcells j _ (List.getElem?_eq_getElem hlt)
      rw [cell_at h3, k4, ← hv]
      simp only [Array.getD_eq_getD_getElem?, k4, Option.getD_some]

theorem run_isAgg {t : TypeId} {b : Bool} (h : aggTy P t = some b) : (isAgg t).run P w = .ok b w := by
  unfold aggTy at h
  cases hu : P.underlying t with
  | none => simp [hu] at h
  | some de =>
    simp [hu] at h
    subst h
    unfold isAgg
    rw [Sem.run_bind, run_underlying hu w]
    cases de <;> rfl

theorem run_loadAt_one {t : TypeId} {ad : Addr} {v : Value} (h : aggTy P t = some false) (hc : w.cell? ad = some v) : (Instr.loadAt t (.pointer (some ad))).run P w = .ok v w := by
  simp [Instr.loadAt, Instr.sureAddr, loadVar, run_isAgg (w := w) h, hc]
theorem run_loadAt_agg {t : TypeId} {b o n : Nat} {vs : List Value} (h : aggTy P t = some true) (hs : szOf P t = some n) (hn : vs.length = n) (hc : ∀ j v, vs[j]? = some v → w.cell? ⟨b, o + j, none⟩ = some v) :
    (Instr.loadAt t (.pointer (some ⟨b, o, none⟩))).run P w = .ok (.agg vs.toArray) w := by
  have hl : (loadCells ⟨b, o, none⟩ n).run P w = .ok vs.toArray w := by
    rw [← hn]
    exact run_loadCells_list (P := P) w ⟨b, o, none⟩ vs (fun j v hv => by rw [add_plain']; exact hc j v hv)
  unfold szOf at hs
  cases hq : P.info? t with
  | none => simp [hq] at hs
  | some inf =>
    have hsz : inf.size = n := by simpa [hq] using hs
    simp [Instr.loadAt, Instr.sureAddr, loadVar, run_isAgg (w := w) h, sizeOf, typeInfo, hq, hsz, hl]

theorem cut_some {α : Type} {o n : Nat} {e x : List α} (h : cut o n e = some x) : o + n ≤ e.length ∧ x = (e.drop o).take n := by
  unfold cut at h
  split at h
  · injection h with h; exact ⟨by assumption, h.symm⟩
  · cases h
theorem crels_sub {σ : Store} {e : List C} {us : List Value} (h : crels g w σ e us) (o n : Nat) : crels g w σ ((e.drop o).take n) ((us.drop o).take n) := by
  have hl := crels_length h
  refine crels_of (by simp [hl]) fun j c u hc hu => ?_
  rw [List.getElem?_take] at hc hu
  split at hc
  · rw [if_pos (by assumption), List.getElem?_drop] at hu
    rw [List.getElem?_drop] at hc
    obtain ⟨u', k1, k2⟩ := crels_get h hc
    rw [k1] at hu
    injection hu with hu
    rw [← hu]
    exact k2
  · cases hc
theorem crels_map_f {σ : Store} : ∀ {cs : List Fz} {us : List Value}, us.length = cs.length → (∀ (j : Nat) (x : Fz) (u : Value), cs[j]? = some x → us[j]? = some u → rep w g.N x u) → crels g w σ (cs.map C.f) us
  | cs, us, hl, h => crels_of (by simpa using hl) fun j c u hc hu => by
    rw [List.getElem?_map, Option.map_eq_some_iff] at hc
    obtain ⟨x, hx, rfl⟩ := hc
    simp only [crel]
    exact h j x u hx hu

theorem ld_sound (R0 : Rel g w r.st) {t : TypeId} {x : Operand} {sz : Option Nat} (ho : o.op = .load t x) (hsz : match sz with
      | none => aggTy P t = some false
      | some n => aggTy P t = some true ∧ szOf P t = some n)
    {vx v : V} (hx : vrel g w r.st vx (a.eval x)) (h : ald r.st sz vx = some v) :
    ∃ u, (execOp a.eval o).run P w = .ok (.value u) w ∧ vrel g w r.st v u := by
  unfold ald at h
  split at h
  · -- one cell of an object's
    rename_i id ver i off
    rw [Option.map_eq_some_iff] at h
    obtain ⟨c, h1, rfl⟩ := h
    unfold Store.cell at h1
    rw [Option.bind_eq_some_iff] at h1
    obtain ⟨e, h1, h2⟩ := h1
    obtain ⟨b, oo, us, k1, k2, k3, _, k5⟩ := elem_cells R0 h1 hx
    obtain ⟨u, k6, k7⟩ := crels_get k3 h2
    refine ⟨u, ?_, k7⟩
    unfold execOp
    simp only [ho, k1]
    simp [run_loadAt_one (P := P) (w := w) hsz (k5 off u k6)]
  · -- one cell of frozen data
    rename_i cs off
    rw [Option.map_eq_some_iff] at h
    obtain ⟨y, h1, rfl⟩ := h
    simp only [vrel, crel] at hx
    obtain ⟨b, oo, k1, k2⟩ := hx
    obtain ⟨u, _, k4, k5⟩ := repRow_get k2 h1
    refine ⟨u, ?_, by simpa only [vf, vrel, crel] using k5⟩
    unfold execOp
    simp only [ho, k1]
    simp [run_loadAt_one (P := P) (w := w) hsz k4]
  · -- several
    rename_i n id ver i off
    rw [Option.map_eq_some_iff] at h
    obtain ⟨e', h1, rfl⟩ := h
    rw [Option.bind_eq_some_iff] at h1
    obtain ⟨e, h1, h2⟩ := h1
    obtain ⟨hle, rfl⟩ := cut_some h2
    obtain ⟨b, oo, us, k1, k2, k3, _, k5⟩ := elem_cells R0 h1 hx
    refine ⟨.agg ((us.drop off).take n).toArray, ?_, ?_⟩
    · unfold execOp
      simp only [ho, k1]
      simp [run_loadAt_agg (P := P) (w := w) (b := b) (o := oo + off) (vs := (us.drop off).take n) hsz.1 hsz.2 (by simp; omega) (fun j v hv => by
        rw [List.getElem?_take] at hv
        split at hv
        · rw [List.getElem?_drop] at hv
          have := k5 _ _ hv
          rwa [← Nat.add_assoc] at this
        · cases hv)]
    · simp only [vrel]
      exact ⟨_, rfl, by simpa using crels_sub k3 off n⟩
  · rename_i n cs off
    rw [Option.map_eq_some_iff] at h
    obtain ⟨e', h1, rfl⟩ := h
    obtain ⟨hle, rfl⟩ := cut_some h1
    simp only [vrel, crel] at hx
    obtain ⟨b, oo, k1, k2⟩ := hx
    have hcell : ∀ j, j < n → ∃ u, w.cell? ⟨b, oo + off + j, none⟩ = some u ∧ ∀ x, cs[off + j]? = some x → rep w g.N x u := fun j hj => by
      obtain ⟨u, _, k4, k5⟩ := repRow_get k2 (List.getElem?_eq_getElem (by omega : off + j < cs.length))
      refine ⟨u, by rwa [Nat.add_assoc], fun x hx => ?_⟩
      rw [List.getElem?_eq_getElem (by omega : off + j < cs.length)] at hx
      injection hx with hx
      rw [← hx]; exact k5
    let us : List Value := (List.range n).map fun j => (w.cell? ⟨b, oo + off + j, none⟩).getD undef
    refine ⟨.agg us.toArray, ?_, ?_⟩
    · unfold execOp
      simp only [ho, k1]
      simp [run_loadAt_agg (P := P) (w := w) (b := b) (o := oo + off) (vs := us) hsz.1 hsz.2 (by simp [us]) (fun j v hv => by
        simp only [us, List.getElem?_map, Option.map_eq_some_iff] at hv
        obtain ⟨j', hj', hv⟩ := hv
        have hlt := lt_of_some hj'
        simp at hlt
        rw [List.getElem?_range hlt] at hj'
        injection hj' with hj'
        subst hj'
        obtain ⟨u, k4, _⟩ := hcell j hlt
        rw [k4] at hv ⊢
        simpa using hv)]
    · simp only [vagg, vrel]
      refine ⟨us.toArray, rfl, crels_map_f (by simp [us]; omega) fun j x u hx hu => ?_⟩
      rw [List.getElem?_take] at hx
      split at hx
      · rename_i hj
        rw [List.getElem?_drop] at hx
        obtain ⟨u', k4, k5⟩ := hcell j hj
        have : us[j]? = some u' := by
          simp only [us, List.getElem?_map, List.getElem?_range hj, Option.map_some, k4, Option.getD_some]
        rw [show us.toArray.toList = us from by simp, this] at hu
        injection hu with hu
        rw [← hu]
        exact k5 x hx
      · cases hx
  · cases h

theorem idx_sound {t e : TypeId} {x i : Operand} {len : Nat} (ho : o.op = .index t x i) (ht : P.underlying t = some (.array len e)) (hs : szOf P e = some 1) (hagg : aggTy P e = some false)
    {vx vi v : V} (hx : vrel g w r.st vx (a.eval x)) (hi : vrel g w r.st vi (a.eval i)) (h : aidx len vx vi = some v) :
    ∃ u, (execOp a.eval o).run P w = .ok (.value u) w ∧ vrel g w r.st v u := by
  unfold aidx at h
  split at h
  · rename_i cs kk k
    obtain ⟨ei, _⟩ := vrel_lit hi
    split at h
    · rename_i hm
      rw [Option.map_eq_some_iff] at h
      obtain ⟨c, h1, rfl⟩ := h
      simp only [vrel] at hx
      obtain ⟨us, e1, hr⟩ := hx
      obtain ⟨u, k1, k2⟩ := crels_get hr h1
      have k1' : us[k.toNat]? = some u := by simpa using k1
      refine ⟨u, ?_, k2⟩
      unfold szOf at hs
      cases hq : P.info? e with
      | none => simp [hq] at hs
      | some inf =>
        have hsz : inf.size = 1 := by simpa [hq] using hs
        unfold execOp
        simp [ho, e1, ei, Instr.index, asIntOf, run_underlying ht, hm.1, hm.2, sizeOf, typeInfo, hq, hsz, part, run_isAgg (w := w) hagg, k1']
    · cases h
  · cases h
theorem fld_sound {t : TypeId} {x : Operand} {i off : Nat} {sz : Option Nat} {fs : Array Field} {f : Field} (ho : o.op = .field t x i) (ht : P.underlying t = some (.struct fs)) (hf : fs[i]? = some f) (hoff : f.offset = off)
    (hsz : match sz with
      | none => aggTy P f.type = some false
      | some n => aggTy P f.type = some true ∧ szOf P f.type = some n)
    {vx v : V} (hx : vrel g w r.st vx (a.eval x)) (h : afld off sz vx = some v) :
    ∃ u, (execOp a.eval o).run P w = .ok (.value u) w ∧ vrel g w r.st v u := by
  subst hoff
  unfold afld at h
  split at h
  · rename_i cs
    rw [Option.map_eq_some_iff] at h
    obtain ⟨c, h1, rfl⟩ := h
    simp only [vrel] at hx
    obtain ⟨us, e, hr⟩ := hx
    obtain ⟨u, k1, k2⟩ := crels_get hr h1
    have k1' : us[f.offset]? = some u := by simpa using k1
    refine ⟨u, ?_, k2⟩
    unfold execOp
    simp [ho, e, Instr.field, run_underlying ht, hf, asAgg, part, run_isAgg (w := w) hsz, k1']
  · rename_i n cs
    rw [Option.map_eq_some_iff] at h
    obtain ⟨cs', h1, rfl⟩ := h
    obtain ⟨hle, rfl⟩ := cut_some h1
    simp only [vrel] at hx
    obtain ⟨us, e, hr⟩ := hx
    refine ⟨.agg (us.extract f.offset (f.offset + n)), ?_, ?_⟩
    · have hs := hsz.2
      unfold szOf at hs
      cases hq : P.info? f.type with
      | none => simp [hq] at hs
      | some inf =>
        have hsz' : inf.size = n := by simpa [hq] using hs
        unfold execOp
        simp [ho, e, Instr.field, run_underlying ht, hf, asAgg, part, run_isAgg (w := w) hsz.1, sizeOf, typeInfo, hq, hsz']
    · simp only [vrel]
      refine ⟨_, rfl, ?_⟩
      have := crels_sub hr f.offset n
      have e2 : (us.extract f.offset (f.offset + n)).toList = (us.toList.drop f.offset).take n := by
        rw [Array.toList_extract]
        simp [List.extract, Nat.add_sub_cancel_left]
      rw [e2]
      exact this
  · cases h

/-- Operands, one by one. -/
def okXs (κ : List Tmp) (loc : List (Option Tmp)) : List Operand → List X → Bool
  | [], [] => true
  | x :: xs, y :: ys => okX κ loc x y && okXs κ loc xs ys
  | _, _ => false
theorem Fr.gets (F : Fr κ loc nt g w r a) : ∀ {xs : List Operand} {ys : List X}, okXs κ loc xs ys = true → vrels g w r.st (r.gets ys) (xs.map a.eval)
  | [], [], _ => by simp [R.gets, vrels]
  | x :: xs, y :: ys, h => by
    simp only [okXs, Bool.and_eq_true] at h
    simp only [R.gets, vrels, List.map_cons]
    exact ⟨_, _, rfl, F.get h.1, F.gets h.2⟩
  | [], _ :: _, h => by simp [okXs] at h
  | _ :: _, [], h => by simp [okXs] at h
theorem vrels_c1 {σ : Store} : ∀ {vs : List V} {us : List Value}, vrels g w σ vs us → crels g w σ (vs.map V.c1) us
  | [], us, h => by simpa only [vrels, crels, List.map_nil] using h
  | v :: vs, us, h => by
    simp only [vrels] at h
    obtain ⟨x, xs, rfl, h1, h2⟩ := h
    simp only [List.map_cons, crels]
    refine ⟨x, xs, rfl, ?_, vrels_c1 h2⟩
    cases v with
    | one c => simpa only [V.c1, vrel] using h1
    | agg cs => simp only [V.c1, crel]
    | tup cs => simp only [V.c1, crel]

theorem mkf_sound (F : Fr κ loc nt g w r a) {f : Nat} {first caps : Array Operand} {first' caps' : List X} (ho : o.op = .makeFunc (.func f) first caps) (h1 : okXs κ loc first.toList first' = true) (h2 : okXs κ loc caps.toList caps' = true) :
    ∃ u, (execOp a.eval o).run P w = .ok (.value u) w ∧ vrel g w r.st (.one (.fn f ((r.gets first').map V.c1) ((r.gets caps').map V.c1))) u := by
  refine ⟨.func (.func f) (first.map a.eval) (caps.map a.eval), ?_, ?_⟩
  · unfold execOp
    simp [ho, Instr.makeFunc]
  · simp only [vrel, crel]
    exact ⟨_, _, rfl, by simpa using vrels_c1 (F.gets h1), by simpa using vrels_c1 (F.gets h2)⟩
end
end Go.A

/- Operations that make memory, or write it. -/
namespace Go.A

/-- (Nothing is asked of the store any more.) -/
structure Low (base lim : Nat) (σ : Store) : Prop where
  le : True
theorem Low.append {base lim : Nat} {σ : Store} (_ : Low base lim σ) (os : List Ob) : Low base lim (σ ++ os) := ⟨trivial⟩
theorem Low.set {base lim : Nat} {σ : Store} (_ : Low base lim σ) {id : Nat} {o : Ob} : Low base lim (σ.set id o) := ⟨trivial⟩

/-- What may be taken for granted behind an operation. -/
def Then (κ : List Tmp) (loc : List (Option Tmp)) (nt : Nat) (g : G) (w : World) (r r' : R) (pa : Value → Act) (next : Act → World → Prop) : Prop :=
  ∀ g' w' u, Ext g w r.st g' w' r'.st → Rel g' w' r'.st → Low r.base r.lim r'.st → Fr κ loc nt g' w' r' (pa u) → next (pa u) w'

section
variable {P : Program} {κ : List Tmp} {loc : List (Option Tmp)} {nt : Nat} {g : G} {w : World} {r r' : R} {a : Act} {o : Go.Oper} {d : D} {next : Act → World → Prop} {Q : Exit → Act → World → Prop}

theorem pure_then (R0 : Rel g w r.st) (L : Low r.base r.lim r.st) (F : Fr κ loc nt g w r a) (hd : okD κ nt o.dst d = true) {v : V} {u : Value} (hrun : (execOp a.eval o).run P w = .ok (.value u) w) (hv : vrel g w r.st v u)
    (k : Then κ (locOf o.dst d :: loc) nt g w r (r.put d v) (a.put o.dst) next) : o.wp P a w next Q := by
  refine wp_value hrun (k g w _ ?_ ?_ ?_ (F.put hd fun _ => hv)) <;> rw [put_st]
  · exact Ext.refl _ _ _
  · exact R0
  · exact L

/-- A result, and a store that has gone on. -/
theorem eff_then {g' : G} {w' : World} {r1 : R} (F : Fr κ loc nt g w r a) (hd : okD κ nt o.dst d = true) (H : Ext g w r.st g' w' r1.st) (R1 : Rel g' w' r1.st) (L1 : Low r.base r.lim r1.st) (he : r1.env = r.env) (hrs : r1.rs = r.rs)
    {v : V} {u : Value} (hrun : (execOp a.eval o).run P w = .ok (.value u) w') (hv : vrel g' w' r1.st v u)
    (k : Then κ (locOf o.dst d :: loc) nt g w r (r1.put d v) (a.put o.dst) next) : o.wp P a w next Q := by
  refine wp_value hrun (k g' w' _ ?_ ?_ ?_ ((F.ext H he hrs).put hd fun _ => hv)) <;> rw [put_st]
  · exact H
  · exact R1
  · exact L1
theorem eff_skip {g' : G} {w' : World} {r1 : R} (F : Fr κ loc nt g w r a) (hd : okD κ nt o.dst d = true) (hno : d = .no) (H : Ext g w r.st g' w' r1.st) (R1 : Rel g' w' r1.st) (L1 : Low r.base r.lim r1.st) (he : r1.env = r.env) (hrs : r1.rs = r.rs)
    (hrun : (execOp a.eval o).run P w = .ok .skip w') (k : Then κ (locOf o.dst d :: loc) nt g w r (r1.put d vun) (a.put o.dst) next) : o.wp P a w next Q := by
  refine wp_skip' hrun (k g' w' _ ?_ ?_ ?_ ((F.ext H he hrs).put hd fun h => absurd hno h)) <;> rw [put_st]
  · exact H
  · exact R1
  · exact L1

/-! ### Known cells are cells of memory -/
theorem rep_one {N : Cells} {x : Fz} {u : Value} (h : rep w N x u) : u.oneCell' = true := by
  cases x with
  | lit v =>
    simp only [rep] at h
    rw [h.1]
    have := h.2
    cases v <;> simp_all [scal, Value.oneCell']
  | sl xs =>
    obtain ⟨_, _, e, _⟩ := rep_slice h
    rw [e]
    rfl
theorem crel_one {σ : Store} {c : C} {u : Value} (h : crel g w σ c u) (hc : c ≠ .un) : u.oneCell' = true := by
  cases c with
  | f x => simp only [crel] at h; exact rep_one h
  | ap t k xs => simp only [crel] at h; exact rep_one h.1
  | ptr id ver i off => simp only [crel] at h; obtain ⟨_, _, _, _, _, _, _, e⟩ := h; rw [e]; rfl
  | fp cs off => simp only [crel] at h; obtain ⟨_, _, e, _⟩ := h; rw [e]; rfl
  | own id ver lo n => simp only [crel] at h; obtain ⟨_, _, _, _, _, _, _, _, e⟩ := h; rw [e]; rfl
  | map id => simp only [crel] at h; rw [h.2]; rfl
  | fn f x y => simp only [crel] at h; obtain ⟨_, _, e, _⟩ := h; rw [e]; rfl
  | un => exact absurd rfl hc
theorem kns_ne : ∀ {cs : List C}, C.kns cs = true → ∀ c ∈ cs, c ≠ .un
  | [], _, c, h => by simp at h
  | x :: cs, hk, c, h => by
    cases x <;> simp only [C.kns] at hk <;> first
      | (cases hk; done)
      | (rcases List.mem_cons.1 h with rfl | h
         · simp
         · exact kns_ne hk c h)
theorem crels_one {σ : Store} {cs : List C} {us : List Value} (h : crels g w σ cs us) (hk : C.kns cs = true) : ∀ u ∈ us, u.oneCell' = true := fun u hu => by
  obtain ⟨j, hj⟩ := List.mem_iff_getElem?.1 hu
  have hlt := lt_of_some hj
  rw [crels_length h] at hlt
  obtain ⟨u', k1, k2⟩ := crels_get h (List.getElem?_eq_getElem hlt)
  rw [hj] at k1
  injection k1 with k1
  subst k1
  exact crel_one k2 (kns_ne hk _ (List.getElem_mem hlt))
theorem cells_one {u : Value} (h : u.oneCell' = true) : u.cells = #[u] := by cases u <;> simp_all [Value.oneCell', Value.cells]
/-- A value's cells. -/
theorem vrel_cells {σ : Store} {v : V} {u : Value} (h : vrel g w σ v u) (hk : C.kns v.cells = true) (h0 : 0 < v.cells.length) : crels g w σ v.cells u.cells.toList ∧ ∀ x ∈ u.cells.toList, x.oneCell' = true := by
  cases v with
  | one c =>
    simp only [vrel] at h
    have hc : c ≠ .un := kns_ne (cs := [c]) hk c (by simp)
    have h1 := crel_one h hc
    rw [cells_one h1]
    simp only [V.cells, crels]
    exact ⟨⟨u, [], rfl, h, rfl⟩, fun x hx => by simp at hx; rw [hx]; exact h1⟩
  | agg cs =>
    simp only [vrel] at h
    obtain ⟨us, e, hr⟩ := h
    rw [e]
    exact ⟨hr, crels_one hr hk⟩
  | tup vs => simp [V.cells] at h0

/-! ### References -/
mutual
theorem crel_lt {σ : Store} : ∀ (c : C) (u : Value), crel g w σ c u → c.lt σ.length = true
  | .f _, _, _ => by simp [C.lt]
  | .ap t k xs, u, h => by
    simp only [crel] at h
    obtain ⟨_, n, h2, _⟩ := h
    obtain ⟨_, _, h3, _⟩ := frOf_some h2
    simpa [C.lt] using lt_of_some h3
  | .ptr id ver i off, u, h => by
    simp only [crel] at h
    obtain ⟨_, _, _, h1, _⟩ := h
    obtain ⟨_, h3, _⟩ := shapeOf_some h1
    simpa [C.lt] using lt_of_some h3
  | .fp _ _, _, _ => by simp [C.lt]
  | .own id ver lo n, u, h => by
    simp only [crel] at h
    obtain ⟨_, _, _, h1, _⟩ := h
    obtain ⟨_, h3, _⟩ := shapeOf_some h1
    simpa [C.lt] using lt_of_some h3
  | .map id, u, h => by
    simp only [crel] at h
    obtain ⟨⟨_, h3⟩, _⟩ := h
    simpa [C.lt] using lt_of_some h3
  | .fn f x y, u, h => by
    simp only [crel] at h
    obtain ⟨fs, cs, _, h2, h3⟩ := h
    simp [C.lt, crels_lt x _ h2, crels_lt y _ h3]
  | .un, _, _ => by simp [C.lt]
theorem crels_lt {σ : Store} : ∀ (cs : List C) (us : List Value), crels g w σ cs us → C.lts σ.length cs = true
  | [], _, _ => by simp [C.lts]
  | c :: cs, us, h => by
    simp only [crels] at h
    obtain ⟨v, vs, _, h2, h3⟩ := h
    simp [C.lts, crel_lt c v h2, crels_lt cs vs h3]
end
theorem lts_mem {n : Nat} : ∀ {cs : List C}, C.lts n cs = true ↔ ∀ c ∈ cs, c.lt n = true
  | [] => by simp [C.lts]
  | c :: cs => by simp [C.lts, lts_mem]
theorem ltss_mem {n : Nat} : ∀ {es : List (List C)}, C.ltss n es = true ↔ ∀ e ∈ es, C.lts n e = true
  | [] => by simp [C.ltss]
  | c :: cs => by simp [C.ltss, ltss_mem]

/-! ### Stores -/
theorem run_storeAt {t : TypeId} {b o : Nat} {arr : Array Value} {ty : TypeId} {u : Value} {n : Nat} (hs : szOf P t = some n) (hn : u.cells.size = n) (hh : w.heap[b]? = some (.cells arr ty (0, 0))) (hfit : o + n ≤ arr.size) (h1 : ∀ x ∈ u.cells.toList, x.oneCell' = true) :
    (Instr.storeAt t (.pointer (some ⟨b, o, none⟩)) u).run P w = .ok () (w.setRow b (splice arr o u.cells.toList)) := by
  have hst := run_storeCells_at P b o ty u.cells.toList 0 arr w hh (by simpa [hn] using hfit) h1
  simp only [Nat.add_zero] at hst
  unfold szOf at hs
  cases hq : P.info? t with
  | none => simp [hq] at hs
  | some inf =>
    have hsz : inf.size = n := by simpa [hq] using hs
    simp [Instr.storeAt, Instr.sureAddr, storeVar, sizeOf, typeInfo, hq, hsz, hn, hst, splice]

theorem over_lts {e e' cs : List C} {off n : Nat} (h : over e off cs = some e') (h1 : C.lts n e = true) (h2 : C.lts n cs = true) : C.lts n e' = true := by
  unfold over at h
  split at h
  · injection h with h
    subst h
    rw [lts_mem] at h1 h2 ⊢
    intro c hc
    rcases List.mem_append.1 hc with hc | hc
    · exact h1 c (List.mem_of_mem_take hc)
    · rcases List.mem_append.1 hc with hc | hc
      · exact h2 c hc
      · exact h1 c (List.mem_of_mem_drop hc)
  · cases h

theorem st_sound (R0 : Rel g w r.st) (L : Low r.base r.lim r.st) (F : Fr κ loc nt g w r a) {t : TypeId} {x v : Operand} {sz : Nat} (ho : o.op = .store t x v) (hd : okD κ nt o.dst d = true) (hno : d = .no) (hs : szOf P t = some sz) (h0 : 0 < sz)
    {vx vv : V} (hx : vrel g w r.st vx (a.eval x)) (hv : vrel g w r.st vv (a.eval v)) {r1 : R} (h : ast r sz vv.cells vx = some r1)
    (k : Then κ (locOf o.dst d :: loc) nt g w r (r1.put d vun) (a.put o.dst) next) : o.wp P a w next Q := by
  unfold ast at h
  split at h
  · rename_i id ver i off
    split at h
    · rename_i hlen
      unfold R.write at h
      split at h
      · rename_i hfits
        rw [Option.map_eq_some_iff] at h
        obtain ⟨ob', h1, rfl⟩ := h
        rw [Option.bind_eq_some_iff] at h1
        obtain ⟨ob, h1, h2⟩ := h1
        unfold Ob.write at h2
        split at h2
        · rename_i ver' sz' es
          split at h2
          · rename_i hver
            subst hver
            rw [Option.map_eq_some_iff] at h2
            obtain ⟨e', h2, rfl⟩ := h2
            rw [Option.bind_eq_some_iff] at h2
            obtain ⟨e, h2, h3⟩ := h2
            obtain ⟨k1, k2⟩ := vrel_cells hv hfits (by omega)
            obtain ⟨arr, ty, hh, hfit, HE, HR⟩ := write_cells R0 h1 h2 h3 k1 k2
            have hptr : a.eval x = .pointer (some ⟨g.ρ id, i * sz' + off, none⟩) := by
              simp only [vrel, crel] at hx
              obtain ⟨v0, s0, l0, m1, _, m3, _⟩ := hx
              rw [shapeOf_of h1] at m1
              injection m1 with m1
              injection m1 with e1 m1
              injection m1 with e2 e3
              subst e1 e2
              exact m3 rfl
            have hcl := crels_length k1
            have hsize : (a.eval v).cells.size = sz := by rw [← hlen, ← hcl]; simp
            refine eff_skip (r1 := r.setOb id (upd ver' sz' i es e')) F hd hno HE HR L.set rfl rfl ?_ k
            · unfold execOp
              simp only [ho, hptr]
              have hrun := run_storeAt (P := P) (w := w) (u := a.eval v) (n := sz) (o := i * sz' + off) hs hsize hh (by rw [hcl, hlen] at hfit; exact hfit) k2
              simp only [Sem.run_bind, hrun, Result.andThen_ok, Sem.run_pure]
          · cases h2
        · cases h2
      · cases h
    · cases h
  · cases h
end
end Go.A

/- Operations that make memory. -/
namespace Go.A

/-- The zero value's cells. -/
def zeroOf (P : Program) (t : TypeId) : Option (List Value) := ((P.info? t).bind (·.zero)).map fun z => z.cells.toList
def okFresh (zs : List Value) : List (Nat × Nat) → Bool
  | [] => true
  | j :: js => (match zs[j.1]? with
    | some (.slice none 0 0) => true
    | _ => false) && okFresh zs js

def G.nils (g : G) (t : Nat) (f : Nat → Value) : G := { g with tv := fun t' k => if t' = t then f k else g.tv t' k }

section
variable {g : G} {w : World} {σ : Store}

/-- An object without a block: the world stays as it was. -/
theorem add_free (R : Rel g w σ) (ob : Ob) (f : Nat → Value) (hob : ∀ {σ' : Store}, Ext g w σ (g.nils σ.length f) w σ' → orel (g.nils σ.length f) w σ' σ.length ob) :
    Ext g w σ (g.nils σ.length f) w (σ ++ [ob]) ∧ Rel (g.nils σ.length f) w (σ ++ [ob]) := by
  have htv : ∀ t k, t < σ.length → (g.nils σ.length f).tv t k = g.tv t k := fun t k h => by
    show (if t = σ.length then f k else g.tv t k) = _
    rw [if_neg (by omega)]
  have H : Ext g w σ (g.nils σ.length f) w (σ ++ [ob]) := {
    os := rfl
    tape := rfl
    output := rfl
    size := Nat.le_refl _
    keeps := fun _ _ h => ⟨h, rfl⟩
    len := by simp
    shape := fun id ver sz len h => by
      obtain ⟨es, h1, _⟩ := shapeOf_some h
      exact .inl ⟨by unfold shapeOf; rw [List.getElem?_append_left (lt_of_some h1)]; exact h, rfl, fun _ arr t ha => ⟨arr, ha, rfl⟩⟩
    map := fun id es h => ⟨rfl, es, by rw [List.getElem?_append_left (lt_of_some h)]; exact h⟩
    tok := fun t k n h => by
      obtain ⟨sz, fr, h1, h2⟩ := frOf_some h
      exact ⟨n, frOf_of (by rw [List.getElem?_append_left (lt_of_some h1)]; exact h1) h2, Nat.le_refl _, fun _ => htv t k (lt_of_some h1)⟩
    tsz := fun t sz h => by
      obtain ⟨fr, h1⟩ := tokSz_some h
      exact tokSz_of (fr := fr) (by rw [List.getElem?_append_left (lt_of_some h1)]; exact h1)
    ow := fun _ _ => rfl
    new := fun _ _ h _ _ => h
    frame := fun _ _ _ => rfl }
  refine ⟨H, ⟨R.nb, fun id o h => ?_⟩⟩
  by_cases hlt : id < σ.length
  · rw [List.getElem?_append_left hlt] at h
    exact orel_keep H rfl (fun k => htv id k hlt) (fun _ _ _ => ⟨rfl, rfl, fun _ h => h⟩) (R.ob id o h)
  · have hid : id = σ.length := by
      have := lt_of_some h
      simp at this
      omega
    subst hid
    simp at h
    subst h
    exact hob H
theorem G.nils_tv (g : G) (t k : Nat) (f : Nat → Value) : (g.nils t f).tv t k = f k := by
  show (if t = t then f k else _) = _
  rw [if_pos rfl]

/-- Tickets for slices without a place. -/
theorem add_tok (R : Rel g w σ) (sz : Nat) (fr : List Nat) (f : Nat → Value) (hz : ∀ k n, fr[k]? = some n → n = 0 ∧ ∃ a, f k = .slice a 0 0) :
    Ext g w σ (g.nils σ.length f) w (σ ++ [.tok sz fr]) ∧ Rel (g.nils σ.length f) w (σ ++ [.tok sz fr]) :=
  add_free R _ f fun _ => fun k n hn => by
    obtain ⟨h0, a, ha⟩ := hz k n hn
    exact .inl ⟨h0, a, by rw [G.nils_tv]; exact ha⟩

theorem tokens_length : ∀ fresh : List (Nat × Nat), (tokens fresh).length = fresh.length
  | [] => rfl
  | _ :: js => by simp [tokens, tokens_length js]
theorem ticket_length : ∀ (fresh : List (Nat × Nat)) (t : Nat) (cs : List C), (ticket t fresh cs).length = cs.length
  | [], _, _ => rfl
  | _ :: js, t, cs => by rw [ticket, ticket_length js]; simp

/-- A cell more that has a ticket of its own. -/
theorem crels_set {cs : List C} {us : List Value} {j : Nat} {c : C} {u : Value} (h : crels g w σ cs us) (hu : us[j]? = some u) (hc : crel g w σ c u) : crels g w σ (cs.set j c) us := by
  have hl := crels_length h
  refine crels_of (by simpa using hl) fun i x v hx hv => ?_
  rw [List.getElem?_set] at hx
  by_cases e : j = i
  · subst e
    have hlt : j < cs.length := by rw [← hl]; exact lt_of_some hu
    simp [hlt] at hx
    subst hx
    rw [hu] at hv
    injection hv with hv
    rw [← hv]
    exact hc
  · rw [if_neg e] at hx
    obtain ⟨v', k1, k2⟩ := crels_get h hx
    rw [k1] at hv
    injection hv with hv
    rw [← hv]
    exact k2
theorem crel_nil {N : Cells} : rep w N (.sl []) (.slice none 0 0) := by
  rw [rep]
  exact ⟨none, 0, 0, rfl, Nat.le_refl _, by simp only [lenAll], .inl rfl⟩

theorem add_row0 {σ : Store} (R : Rel g w σ) (sz : Nat) : Ext g w σ (g.nils σ.length fun _ => undef) w (σ ++ [.cells 0 sz []]) ∧ Rel (g.nils σ.length fun _ => undef) w (σ ++ [.cells 0 sz []]) :=
  add_free R _ _ fun _ h => absurd rfl h

theorem own_nil {σ : Store} {sz n q : Nat} (hq : q < n) (g : G) : crel g w (σ ++ List.replicate n (.cells 0 sz [])) (.own (σ.length + q) 0 0 0) (.slice none 0 0) := by
  rw [crel]
  have hs : shapeOf (σ ++ List.replicate n (.cells 0 sz [])) (σ.length + q) = some (0, sz, 0) := by
    unfold shapeOf
    rw [List.getElem?_append_right (by omega), show σ.length + q - σ.length = q by omega, List.getElem?_replicate, if_pos hq]
    rfl
  exact ⟨0, sz, 0, hs, Nat.le_refl _, fun _ => ⟨none, 0, rfl, Nat.le_refl _, fun _ => rfl, fun h => absurd rfl h⟩, _, _, rfl⟩
theorem tickets : ∀ (fresh : List (Nat × Nat)) {g : G} {σ : Store} {cs : List C} {zs : List Value}, Rel g w σ → okFresh zs fresh = true → crels g w σ cs zs →
    ∃ g', Ext g w σ g' w (σ ++ tokens fresh) ∧ Rel g' w (σ ++ tokens fresh) ∧ crels g' w (σ ++ tokens fresh) (ticket σ.length fresh cs) zs
  | [], g, σ, cs, zs, R, _, h => ⟨g, by simpa [tokens] using Ext.refl g w σ, by simpa [tokens] using R, by simpa [tokens, ticket] using h⟩
  | j :: js, g, σ, cs, zs, R, hf, h => by
    simp only [okFresh, Bool.and_eq_true] at hf
    obtain ⟨hj, hjs⟩ := hf
    have hz : zs[j.1]? = some (.slice none 0 0) := by
      split at hj
      · assumption
      · cases hj
    by_cases c : 4096 ≤ j.2
    · obtain ⟨H1, R1⟩ := add_row0 R (j.2 - 4096)
      have hc : crel (g.nils σ.length fun _ => undef) w (σ ++ [.cells 0 (j.2 - 4096) []]) (tokC σ.length j.2) (.slice none 0 0) := by
        rw [tokC, if_pos c]
        have := own_nil (σ := σ) (sz := j.2 - 4096) (n := 1) (q := 0) (w := w) (by omega) (g.nils σ.length fun _ => undef)
        simpa using this
      obtain ⟨g', H2, R2, h2⟩ := tickets js R1 hjs (crels_set (H1.crels _ _ h) hz hc)
      refine ⟨g', ?_, ?_, ?_⟩
      · have := H1.trans H2
        simpa [tokens, tokO, if_pos c] using this
      · simpa [tokens, tokO, if_pos c] using R2
      · simpa [tokens, tokO, if_pos c, ticket] using h2
    · obtain ⟨H1, R1⟩ := add_tok R j.2 [0] (fun _ => .slice none 0 0) (fun k n hn => ⟨by
        cases k with
        | zero => simp at hn; exact hn.symm
        | succ k => simp at hn, none, rfl⟩)
      have hc : crel (g.nils σ.length fun _ => .slice none 0 0) w (σ ++ [.tok j.2 [0]]) (tokC σ.length j.2) (.slice none 0 0) := by
        rw [tokC, if_neg c, crel]
        refine ⟨crel_nil, 0, frOf_of (sz := j.2) (fr := [0]) (by simp) (by simp), Nat.le_refl _, fun _ => ?_, j.2, tokSz_of (fr := [0]) (by simp), by simp only [lenAll]⟩
        show _ = if σ.length = σ.length then _ else _
        rw [if_pos rfl]
      obtain ⟨g', H2, R2, h2⟩ := tickets js R1 hjs (crels_set (H1.crels _ _ h) hz hc)
      refine ⟨g', ?_, ?_, ?_⟩
      · have := H1.trans H2
        simpa [tokens, tokO, if_neg c] using this
      · simpa [tokens, tokO, if_neg c] using R2
      · simpa [tokens, tokO, if_neg c, ticket] using h2

/-- A row of the store, in a new block. -/
theorem alloc_rows (R : Rel g w σ) {sz : Nat} {es : List (List C)} {us : List Value} (t : TypeId) (hl : us.length = es.length * sz) (hrow : rowRel g w σ us.toArray sz es) :
    Ext g w σ (g.own σ.length w.heap.size) (w.alloc (.cells us.toArray t)) (σ ++ [.cells 0 sz es]) ∧ Rel (g.own σ.length w.heap.size) (w.alloc (.cells us.toArray t)) (σ ++ [.cells 0 sz es]) :=
  alloc_own R (.cells 0 sz es) (.cells us.toArray t) fun H h1 h2 h3 _ => ⟨by rw [h1]; exact h2, by rw [h1]; exact h3, us.toArray, t, by rw [h1]; exact heap_alloc_at w _, by simp [hl], H.rowRel hrow⟩
theorem get_last (σ : Store) (o : Ob) : (σ ++ [o])[σ.length]? = some o := by simp
theorem ptr_alloc {sz : Nat} {es : List (List C)} (o : Obj) : vrel (g.own σ.length w.heap.size) (w.alloc o) (σ ++ [.cells 0 sz es]) (.one (.ptr σ.length 0 0 0)) (.pointer (some ⟨w.heap.size, 0, none⟩)) := by
  simp only [vrel, crel]
  exact ⟨0, sz, es.length, shapeOf_of (get_last σ _), Nat.le_refl _, fun _ => by simp [G.own], _, rfl⟩
theorem own_alloc {sz : Nat} {es : List (List C)} {us : List Value} (t : TypeId) (hl : us.length = es.length * sz) :
    vrel (g.own σ.length w.heap.size) (w.alloc (.cells us.toArray t)) (σ ++ [.cells 0 sz es]) (.one (.own σ.length 0 0 es.length)) (.slice (some ⟨w.heap.size, 0, none⟩) es.length es.length) := by
  simp only [vrel, crel]
  refine ⟨0, sz, es.length, shapeOf_of (get_last σ _), Nat.le_refl _, fun _ => ⟨_, _, rfl, Nat.le_refl _, fun h => h, fun _ => ⟨by omega, fun _ => by simp [G.own], us.toArray, t, ?_, by simp [hl]⟩⟩, _, _, rfl⟩
  simpa [G.own] using heap_alloc_at w (.cells us.toArray t)
theorem rowRel_one {cs : List C} {us : List Value} (h : crels g w σ cs us) (h1 : ∀ u ∈ us, u.oneCell' = true) : rowRel g w σ us.toArray cs.length [cs] := fun i e hi => by
  cases i with
  | succ i => simp at hi
  | zero =>
    simp at hi
    subst hi
    refine ⟨rfl, fun j c hc => ?_⟩
    obtain ⟨u, k1, k2⟩ := crels_get h hc
    exact ⟨u, by simpa using k1, k2, h1 u (List.mem_of_getElem? k1)⟩

/-- A slice by value, in a new block, with a ticket. -/
theorem alloc_tok (R : Rel g w σ) {sz : Nat} {xs : List (List Fz)} {us : List Value} (t : TypeId) (hx : Lay w g.N sz xs us) :
    ∃ g', Ext g w σ g' (w.alloc (.cells us.toArray t)) (σ ++ [.tok sz [xs.length]]) ∧ Rel g' (w.alloc (.cells us.toArray t)) (σ ++ [.tok sz [xs.length]]) ∧
      vrel g' (w.alloc (.cells us.toArray t)) (σ ++ [.tok sz [xs.length]]) (.one (.ap σ.length 0 xs)) (.slice (some ⟨w.heap.size, 0, none⟩) xs.length xs.length) := by
  let g' : G := { g with tv := fun t' k => if t' = σ.length then .slice (some ⟨w.heap.size, 0, none⟩) xs.length xs.length else g.tv t' k, ow := put1 g.ow w.heap.size (.tk σ.length 0), N := fun b o => g.N b o ∨ (b = w.heap.size ∧ o < xs.length * sz) }
  have how : ∀ b, b < w.heap.size → g'.ow b = g.ow b := fun b hb => put1_ne g.ow (k := w.heap.size) (i := b) _ (by omega)
  have hN : ∀ b o, b < w.heap.size → (g'.N b o ↔ g.N b o) := fun b o hb => ⟨fun h => h.elim id fun h => by omega, .inl⟩
  have htv : ∀ t' k, t' < σ.length → g'.tv t' k = g.tv t' k := fun t' k h => by
    show (if t' = σ.length then _ else g.tv t' k) = _
    rw [if_neg (by omega)]
  have htv' : ∀ k, g'.tv σ.length k = .slice (some ⟨w.heap.size, 0, none⟩) xs.length xs.length := fun k => by
    show (if σ.length = σ.length then _ else _) = _
    rw [if_pos rfl]
  have H : Ext g w σ g' (w.alloc (.cells us.toArray t)) (σ ++ [.tok sz [xs.length]]) :=
    Ext.alloc R _ g' (fun _ _ => rfl) (fun t' k n h => htv t' k (by obtain ⟨_, _, h1, _⟩ := frOf_some h; exact lt_of_some h1)) how hN _
  have hat := heap_alloc_at w (.cells us.toArray t)
  refine ⟨g', H, ⟨fun b o h => ?_, fun id o h => ?_⟩, ?_⟩
  · rw [size_alloc]
    rcases h with h | h
    · have := R.nb b o h; omega
    · omega
  · by_cases hlt : id < σ.length
    · rw [List.getElem?_append_left hlt] at h
      exact orel_keep H rfl (fun k => htv id k hlt) (fun b hb _ => ⟨heap_alloc_old w _ hb, how b hb, fun o => (hN b o hb).1⟩) (R.ob id o h)
    · have hid : id = σ.length := by
        have := lt_of_some h
        simp at this
        omega
      subst hid
      simp at h
      subst h
      intro k n hn
      cases k with
      | succ k => simp at hn
      | zero =>
        simp at hn
        subst hn
        rw [htv']
        rcases Nat.eq_zero_or_pos xs.length with h0 | h0
        · exact .inl ⟨h0, _, by rw [h0]⟩
        · refine .inr ⟨_, _, _, us.toArray, t, rfl, h0, Nat.le_refl _, put1_same _ _ _, hat, by simp [hx.1], fun o' ho' => ?_⟩
          rcases ho' with ho' | ho'
          · exact absurd (R.nb _ _ ho') (Nat.lt_irrefl _)
          · have := ho'.2; omega
  · simp only [vrel, crel]
    refine ⟨rep_sl hx.2.1 (Nat.le_refl _) (rows_of_lay hx H.keeps fun j v hj => ?_), xs.length, frOf_of (sz := sz) (fr := [xs.length]) (by simp) (by simp), Nat.le_refl _, fun _ => (htv' 0).symm, sz, tokSz_of (fr := [xs.length]) (by simp), hx.2.1⟩
    have hlt := lt_of_some hj
    rw [hx.1] at hlt
    refine ⟨.inr ⟨rfl, by omega⟩, ?_⟩
    rw [Nat.zero_add, cell_at hat]
    simpa using hj

/-- Frozen data in a new block. -/
theorem alloc_fz (R : Rel g w σ) {sz : Nat} {xs : List (List Fz)} {us : List Value} (t : TypeId) (hx : Lay w g.N sz xs us) :
    ∃ g', Ext g w σ g' (w.alloc (.cells us.toArray t)) σ ∧ Rel g' (w.alloc (.cells us.toArray t)) σ ∧
      vrel g' (w.alloc (.cells us.toArray t)) σ (vsl xs) (.slice (some ⟨w.heap.size, 0, none⟩) xs.length xs.length) := by
  obtain ⟨H, R1⟩ := alloc_frozen R (.cells us.toArray t)
  refine ⟨_, H, R1, ?_⟩
  simp only [vsl, vrel, crel]
  refine rep_sl hx.2.1 (Nat.le_refl _) (rows_of_lay hx H.keeps fun j v hj => ⟨.inr rfl, ?_⟩)
  rw [Nat.zero_add, cell_at (heap_alloc_at w _)]
  simpa using hj
end
end Go.A
