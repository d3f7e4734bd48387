/- What stands in memory for a value of the abstract machine. -/
import Derived.Test.YtecjccggbbbaaaaGreatMach
import Derived.Below
import Derived.Laws.CopyRow
import Derived.Deep.Draws
import Derived.Orders
import Derived.Laws.Entries
set_option linter.unusedVariables false
set_option linter.unusedSimpArgs false
namespace Go.A

/-- A value without references. -/
def scal : Value → Bool
  | .bool _ | .int _ _ | .float _ _ | .complex _ _ _ | .string _ | .nilFunc | .nilIface => true
  | .pointer none | .map none => true
  | _ => false

/-- A cell of memory that may be counted on. -/
abbrev Cells := Nat → Nat → Prop

mutual
def rep (w : World) (N : Cells) : Fz → Value → Prop
  | .lit v, u => u = v ∧ scal v = true
  | .sl xs, u => ∃ a c sz, u = .slice a xs.length c ∧ xs.length ≤ c ∧ lenAll sz xs ∧ (xs = [] ∨ ∃ b o, a = some ⟨b, o, none⟩ ∧ repRows w N sz xs b o)
def repRow (w : World) (N : Cells) : List Fz → Nat → Nat → Prop
  | [], _, _ => True
  | x :: xs, b, o => (∃ u, N b o ∧ w.cell? ⟨b, o, none⟩ = some u ∧ rep w N x u) ∧ repRow w N xs b (o + 1)
def repRows (w : World) (N : Cells) : Nat → List (List Fz) → Nat → Nat → Prop
  | _, [], _, _ => True
  | sz, e :: es, b, o => repRow w N e b o ∧ repRows w N sz es b (o + sz)
def lenAll : Nat → List (List Fz) → Prop
  | _, [] => True
  | sz, e :: es => e.length = sz ∧ lenAll sz es
end

/-- The cells of N are cells of N', unchanged. -/
def Keeps (w w' : World) (N N' : Cells) : Prop := ∀ b o, N b o → N' b o ∧ w'.cell? ⟨b, o, none⟩ = w.cell? ⟨b, o, none⟩
theorem Keeps.refl (w : World) (N : Cells) : Keeps w w N N := fun _ _ h => ⟨h, rfl⟩
theorem Keeps.trans {w w1 w2 : World} {N N1 N2 : Cells} (h : Keeps w w1 N N1) (h' : Keeps w1 w2 N1 N2) : Keeps w w2 N N2 := fun b o hb =>
  ⟨(h' b o (h b o hb).1).1, ((h' b o (h b o hb).1).2).trans (h b o hb).2⟩

mutual
theorem rep_mono {w w' : World} {N N' : Cells} (H : Keeps w w' N N') : ∀ (x : Fz) (u : Value), rep w N x u → rep w' N' x u
  | .lit v, u, h => by simpa only [rep] using h
  | .sl xs, u, h => by
    simp only [rep] at h ⊢
    obtain ⟨a, c, sz, h1, h2, h3, h4⟩ := h
    refine ⟨a, c, sz, h1, h2, h3, ?_⟩
    rcases h4 with h4 | ⟨b, o, h4, h5⟩
    · exact .inl h4
    · exact .inr ⟨b, o, h4, repRows_mono H sz xs b o h5⟩
theorem repRow_mono {w w' : World} {N N' : Cells} (H : Keeps w w' N N') : ∀ (xs : List Fz) (b o : Nat), repRow w N xs b o → repRow w' N' xs b o
  | [], _, _, _ => by simp only [repRow]
  | x :: xs, b, o, h => by
    simp only [repRow] at h ⊢
    obtain ⟨⟨u, h1, h2, h3⟩, h4⟩ := h
    exact ⟨⟨u, (H b o h1).1, (H b o h1).2.trans h2, rep_mono H x u h3⟩, repRow_mono H xs b (o + 1) h4⟩
theorem repRows_mono {w w' : World} {N N' : Cells} (H : Keeps w w' N N') : ∀ (sz : Nat) (es : List (List Fz)) (b o : Nat), repRows w N sz es b o → repRows w' N' sz es b o
  | _, [], _, _, _ => by simp only [repRows]
  | sz, e :: es, b, o, h => by
    simp only [repRows] at h ⊢
    exact ⟨repRow_mono H e b o h.1, repRows_mono H sz es b (o + sz) h.2⟩
end

section
variable {w : World} {N : Cells}
theorem lenAll_get {sz : Nat} : ∀ {es : List (List Fz)}, lenAll sz es → ∀ {i : Nat} {e : List Fz}, es[i]? = some e → e.length = sz
  | [], _, i, e, h => by simp at h
  | x :: xs, hl, i, e, h => by
    simp only [lenAll] at hl
    cases i with
    | zero => simp at h; subst h; exact hl.1
    | succ i => exact lenAll_get hl.2 (by simpa using h)
theorem lenAll_of {sz : Nat} : ∀ {es : List (List Fz)}, (∀ e ∈ es, e.length = sz) → lenAll sz es
  | [], _ => by simp only [lenAll]
  | x :: xs, h => by
    simp only [lenAll]
    exact ⟨h x (by simp), lenAll_of fun e he => h e (by simp [he])⟩
theorem lenAll_mem {sz : Nat} {es : List (List Fz)} (h : lenAll sz es) : ∀ e ∈ es, e.length = sz := fun e he => by
  obtain ⟨i, hi⟩ := List.mem_iff_getElem?.1 he
  exact lenAll_get h hi
theorem repRow_get : ∀ {cs : List Fz} {b o : Nat}, repRow w N cs b o → ∀ {j : Nat} {x : Fz}, cs[j]? = some x → ∃ u, N b (o + j) ∧ w.cell? ⟨b, o + j, none⟩ = some u ∧ rep w N x u
  | [], _, _, _, j, x, h => by simp at h
  | y :: ys, b, o, hr, j, x, h => by
    simp only [repRow] at hr
    cases j with
    | zero => simp at h; subst h; exact hr.1
    | succ j =>
      have := repRow_get hr.2 (j := j) (x := x) (by simpa using h)
      rwa [show o + (j + 1) = o + 1 + j from by omega]
theorem repRow_of : ∀ {cs : List Fz} {b o : Nat}, (∀ j x, cs[j]? = some x → ∃ u, N b (o + j) ∧ w.cell? ⟨b, o + j, none⟩ = some u ∧ rep w N x u) → repRow w N cs b o
  | [], _, _, _ => by simp only [repRow]
  | y :: ys, b, o, h => by
    simp only [repRow]
    refine ⟨by simpa using h 0 y (by simp), repRow_of fun j x hj => ?_⟩
    have := h (j + 1) x (by simpa using hj)
    rwa [show o + (j + 1) = o + 1 + j from by omega] at this
theorem repRows_get {sz : Nat} : ∀ {es : List (List Fz)} {b o : Nat}, repRows w N sz es b o → ∀ {i : Nat} {e : List Fz}, es[i]? = some e → repRow w N e b (o + i * sz)
  | [], _, _, _, i, e, h => by simp at h
  | y :: ys, b, o, hr, i, e, h => by
    simp only [repRows] at hr
    cases i with
    | zero => simp at h; subst h; simpa using hr.1
    | succ i =>
      have := repRows_get hr.2 (i := i) (e := e) (by simpa using h)
      rwa [show o + (i + 1) * sz = o + sz + i * sz from by rw [Nat.add_mul]; omega]
theorem repRows_of {sz : Nat} : ∀ {es : List (List Fz)} {b o : Nat}, (∀ i e, es[i]? = some e → repRow w N e b (o + i * sz)) → repRows w N sz es b o
  | [], _, _, _ => by simp only [repRows]
  | y :: ys, b, o, h => by
    simp only [repRows]
    refine ⟨by simpa using h 0 y (by simp), repRows_of fun i e hi => ?_⟩
    have := h (i + 1) e (by simpa using hi)
    rwa [show o + (i + 1) * sz = o + sz + i * sz from by rw [Nat.add_mul]; omega] at this
end

/-- Who has a block. -/
inductive Ow where
  | no
  | ob (id : Nat)
  | tk (t k : Nat)

/-- Where things stand: the objects' blocks, the tickets' slices, who has a block, and what may be counted on. -/
structure G where
  ρ : Nat → Nat
  tv : Nat → Nat → Value
  ow : Nat → Ow
  N : Cells

/-- An object's shape: its version, its elements' size, how many there are. -/
def Ob.shape : Ob → Option (Nat × Nat × Nat)
  | .cells ver sz es => some (ver, sz, es.length)
  | _ => none
def shapeOf (σ : Store) (id : Nat) : Option (Nat × Nat × Nat) := (σ[id]?).bind Ob.shape
def Ob.fr (k : Nat) : Ob → Option Nat
  | .tok _ fr => fr[k]?
  | _ => none
def frOf (σ : Store) (t k : Nat) : Option Nat := (σ[t]?).bind (Ob.fr k)

def Ob.tsz : Ob → Option Nat
  | .tok sz _ => some sz
  | _ => none
def tokSz (σ : Store) (t : Nat) : Option Nat := (σ[t]?).bind Ob.tsz

/-- A slice of an owned row. -/
def ownRel (w : World) (b sz len lo n : Nat) (u : Value) : Prop :=
  ∃ a c, u = .slice a n c ∧ n ≤ c ∧ (len = 0 → c = 0) ∧ (len ≠ 0 → lo + n ≤ len ∧ (c ≠ 0 → a = some ⟨b, lo * sz, none⟩) ∧ ∃ arr t, w.heap[b]? = some (.cells arr t (0, 0)) ∧ (lo + c) * sz ≤ arr.size)

mutual
def crel (g : G) (w : World) (σ : Store) : C → Value → Prop
  | .f x, u => rep w g.N x u
  | .ap t k xs, u => rep w g.N (.sl xs) u ∧ ∃ n, frOf σ t k = some n ∧ xs.length ≤ n ∧ (xs.length = n → u = g.tv t k) ∧ ∃ sz, tokSz σ t = some sz ∧ lenAll sz xs
  | .ptr id ver i off, u => ∃ ver0 sz len, shapeOf σ id = some (ver0, sz, len) ∧ ver ≤ ver0 ∧ (ver = ver0 → u = .pointer (some ⟨g.ρ id, i * sz + off, none⟩)) ∧ ∃ ad, u = .pointer (some ad)
  | .fp cs off, u => ∃ b o, u = .pointer (some ⟨b, o + off, none⟩) ∧ repRow w g.N cs b o
  | .own id ver lo n, u => ∃ ver0 sz len, shapeOf σ id = some (ver0, sz, len) ∧ ver ≤ ver0 ∧ (ver = ver0 → ownRel w (g.ρ id) sz len lo n u) ∧ ∃ ad c, u = .slice ad n c
  | .map id, u => (∃ es, σ[id]? = some (.mp es)) ∧ u = .map (some (g.ρ id))
  | .fn f first caps, u => ∃ fs cs, u = .func (.func f) fs cs ∧ crels g w σ first fs.toList ∧ crels g w σ caps cs.toList
  | .un, _ => True
def crels (g : G) (w : World) (σ : Store) : List C → List Value → Prop
  | [], us => us = []
  | c :: cs, us => ∃ v vs, us = v :: vs ∧ crel g w σ c v ∧ crels g w σ cs vs
end
mutual
def vrel (g : G) (w : World) (σ : Store) : V → Value → Prop
  | .one c, u => crel g w σ c u
  | .agg cs, u => ∃ us, u = .agg us ∧ crels g w σ cs us.toList
  | .tup vs, u => ∃ us, u = .tuple us ∧ vrels g w σ vs us.toList
def vrels (g : G) (w : World) (σ : Store) : List V → List Value → Prop
  | [], us => us = []
  | v :: vs, us => ∃ x xs, us = x :: xs ∧ vrel g w σ v x ∧ vrels g w σ vs xs
end

/-- How one state of things goes on to another one, as far as values are concerned. -/
structure Ext (g : G) (w : World) (σ : Store) (g' : G) (w' : World) (σ' : Store) : Prop where
  os : w'.os = w.os
  tape : w'.tape = w.tape
  output : w'.output = w.output
  size : w.heap.size ≤ w'.heap.size
  keeps : Keeps w w' g.N g'.N
  len : σ.length ≤ σ'.length
  shape : ∀ id ver sz len, shapeOf σ id = some (ver, sz, len) →
    (shapeOf σ' id = some (ver, sz, len) ∧ g'.ρ id = g.ρ id ∧ (len ≠ 0 → ∀ arr t, w.heap[g.ρ id]? = some (.cells arr t (0, 0)) → ∃ arr', w'.heap[g.ρ id]? = some (.cells arr' t (0, 0)) ∧ arr'.size = arr.size)) ∨
    ∃ ver1 len1, shapeOf σ' id = some (ver1, sz, len1) ∧ ver < ver1
  map : ∀ id es, σ[id]? = some (.mp es) → g'.ρ id = g.ρ id ∧ ∃ es', σ'[id]? = some (.mp es')
  tok : ∀ t k n, frOf σ t k = some n → ∃ n', frOf σ' t k = some n' ∧ n ≤ n' ∧ (n = n' → g'.tv t k = g.tv t k)
  tsz : ∀ t sz, tokSz σ t = some sz → tokSz σ' t = some sz
  ow : ∀ b, b < w.heap.size → g'.ow b = g.ow b
  new : ∀ b o, g'.N b o → b < w.heap.size → g.ow b = .no → g.N b o
  frame : ∀ b, b < w.heap.size → g.ow b = .no → w'.heap[b]? = w.heap[b]?

theorem Ext.refl (g : G) (w : World) (σ : Store) : Ext g w σ g w σ where
  os := rfl
  tape := rfl
  output := rfl
  size := Nat.le_refl _
  keeps := Keeps.refl _ _
  len := Nat.le_refl _
  shape := fun id ver sz len h => .inl ⟨h, rfl, fun _ arr t ha => ⟨arr, ha, rfl⟩⟩
  map := fun id es h => ⟨rfl, es, h⟩
  tok := fun t k n h => ⟨n, h, Nat.le_refl _, fun _ => rfl⟩
  tsz := fun _ _ h => h
  ow := fun _ _ => rfl
  new := fun _ _ h _ _ => h
  frame := fun _ _ _ => rfl

theorem Ext.trans {g g1 g2 : G} {w w1 w2 : World} {σ σ1 σ2 : Store} (h : Ext g w σ g1 w1 σ1) (k : Ext g1 w1 σ1 g2 w2 σ2) : Ext g w σ g2 w2 σ2 where
  os := k.os.trans h.os
  tape := k.tape.trans h.tape
  output := k.output.trans h.output
  size := Nat.le_trans h.size k.size
  keeps := h.keeps.trans k.keeps
  len := Nat.le_trans h.len k.len
  shape := fun id ver sz len hs => by
    rcases h.shape id ver sz len hs with ⟨a, b, c⟩ | ⟨v1, l1, a, b⟩
    · rcases k.shape id ver sz len a with ⟨a', b', c'⟩ | ⟨v1, l1, a', b'⟩
      · refine .inl ⟨a', b'.trans b, fun hl arr t ha => ?_⟩
        obtain ⟨arr1, h1, h2⟩ := c hl arr t ha
        obtain ⟨arr2, h3, h4⟩ := c' hl arr1 t (by rw [b]; exact h1)
        exact ⟨arr2, by rw [← b]; exact h3, h4.trans h2⟩
      · exact .inr ⟨v1, l1, a', b'⟩
    · rcases k.shape id v1 sz l1 a with ⟨a', _⟩ | ⟨v2, l2, a', b'⟩
      · exact .inr ⟨v1, l1, a', b⟩
      · exact .inr ⟨v2, l2, a', Nat.lt_trans b b'⟩
  map := fun id es hm => by
    obtain ⟨a, es1, b⟩ := h.map id es hm
    obtain ⟨a', es2, b'⟩ := k.map id es1 b
    exact ⟨a'.trans a, es2, b'⟩
  tok := fun t kk n hn => by
    obtain ⟨n1, a, b, c⟩ := h.tok t kk n hn
    obtain ⟨n2, a', b', c'⟩ := k.tok t kk n1 a
    exact ⟨n2, a', Nat.le_trans b b', fun e => by
      have e1 : n = n1 := by omega
      have e2 : n1 = n2 := by omega
      exact (c' e2).trans (c e1)⟩
  tsz := fun t sz ht => k.tsz t sz (h.tsz t sz ht)
  ow := fun b hb => (k.ow b (Nat.lt_of_lt_of_le hb h.size)).trans (h.ow b hb)
  new := fun b o hn hb ho => h.new b o (k.new b o hn (Nat.lt_of_lt_of_le hb h.size) ((h.ow b hb).trans ho)) hb ho
  frame := fun b hb ho => (k.frame b (Nat.lt_of_lt_of_le hb h.size) ((h.ow b hb).trans ho)).trans (h.frame b hb ho)

mutual
theorem Ext.crel {g g' : G} {w w' : World} {σ σ' : Store} (H : Ext g w σ g' w' σ') : ∀ (c : C) (u : Value), crel g w σ c u → Go.A.crel g' w' σ' c u
  | .f x, u, h => by
    simp only [Go.A.crel] at h ⊢
    exact rep_mono H.keeps x u h
  | .ap t k xs, u, h => by
    simp only [Go.A.crel] at h ⊢
    obtain ⟨h1, n, h2, h3, h4, sz, h5, h6⟩ := h
    obtain ⟨n', a, b, c⟩ := H.tok t k n h2
    refine ⟨rep_mono H.keeps _ u h1, n', a, by omega, fun e => ?_, sz, H.tsz t sz h5, h6⟩
    have e1 : n = n' := by omega
    rw [c e1]
    exact h4 (by omega)
  | .ptr id ver i off, u, h => by
    simp only [Go.A.crel] at h ⊢
    obtain ⟨v0, sz, len, h1, h2, h3, h4⟩ := h
    rcases H.shape id v0 sz len h1 with ⟨a, b, _⟩ | ⟨v1, l1, a, b⟩
    · exact ⟨v0, sz, len, a, h2, by rw [b]; exact h3, h4⟩
    · exact ⟨v1, sz, l1, a, by omega, fun e => by omega, h4⟩
  | .fp cs off, u, h => by
    simp only [Go.A.crel] at h ⊢
    obtain ⟨b, o, h1, h2⟩ := h
    exact ⟨b, o, h1, repRow_mono H.keeps cs b o h2⟩
  | .own id ver lo n, u, h => by
    simp only [Go.A.crel] at h ⊢
    obtain ⟨v0, sz, len, h1, h2, h3, h4⟩ := h
    rcases H.shape id v0 sz len h1 with ⟨a, b, c⟩ | ⟨v1, l1, a, b⟩
    · refine ⟨v0, sz, len, a, h2, fun e => ?_, h4⟩
      obtain ⟨ad, cp, e1, e2, e3, e4⟩ := h3 e
      refine ⟨ad, cp, e1, e2, e3, fun hl => ?_⟩
      obtain ⟨f1, f2, arr, t, f3, f4⟩ := e4 hl
      obtain ⟨arr', g1, g2⟩ := c hl arr t f3
      exact ⟨f1, by rw [b]; exact f2, arr', t, by rw [b]; exact g1, by rw [g2]; exact f4⟩
    · exact ⟨v1, sz, l1, a, by omega, fun e => by omega, h4⟩
  | .map id, u, h => by
    simp only [Go.A.crel] at h ⊢
    obtain ⟨⟨es, h1⟩, h2⟩ := h
    obtain ⟨a, es', b⟩ := H.map id es h1
    exact ⟨⟨es', b⟩, by rw [a]; exact h2⟩
  | .fn f a b, u, h => by
    simp only [Go.A.crel] at h ⊢
    obtain ⟨fs, cs, h1, h2, h3⟩ := h
    exact ⟨fs, cs, h1, Ext.crels H a _ h2, Ext.crels H b _ h3⟩
  | .un, _, _ => by simp only [Go.A.crel]
theorem Ext.crels {g g' : G} {w w' : World} {σ σ' : Store} (H : Ext g w σ g' w' σ') : ∀ (cs : List C) (us : List Value), crels g w σ cs us → Go.A.crels g' w' σ' cs us
  | [], us, h => by simpa only [Go.A.crels] using h
  | c :: cs, us, h => by
    simp only [Go.A.crels] at h ⊢
    obtain ⟨v, vs, h1, h2, h3⟩ := h
    exact ⟨v, vs, h1, Ext.crel H c v h2, Ext.crels H cs vs h3⟩
end
mutual
theorem Ext.vrel {g g' : G} {w w' : World} {σ σ' : Store} (H : Ext g w σ g' w' σ') : ∀ (c : V) (u : Value), vrel g w σ c u → Go.A.vrel g' w' σ' c u
  | .one c, u, h => by
    simp only [Go.A.vrel] at h ⊢
    exact H.crel c u h
  | .agg cs, u, h => by
    simp only [Go.A.vrel] at h ⊢
    obtain ⟨us, h1, h2⟩ := h
    exact ⟨us, h1, H.crels cs _ h2⟩
  | .tup vs, u, h => by
    simp only [Go.A.vrel] at h ⊢
    obtain ⟨us, h1, h2⟩ := h
    exact ⟨us, h1, Ext.vrels H vs _ h2⟩
theorem Ext.vrels {g g' : G} {w w' : World} {σ σ' : Store} (H : Ext g w σ g' w' σ') : ∀ (cs : List V) (us : List Value), vrels g w σ cs us → Go.A.vrels g' w' σ' cs us
  | [], us, h => by simpa only [Go.A.vrels] using h
  | c :: cs, us, h => by
    simp only [Go.A.vrels] at h ⊢
    obtain ⟨v, vs, h1, h2, h3⟩ := h
    exact ⟨v, vs, h1, Ext.vrel H c v h2, Ext.vrels H cs vs h3⟩
end

/-! ### The objects -/
def mrel (g : G) (w : World) (σ : Store) : List (Int × V) → List MapEntry → Prop
  | [], es => es = []
  | x :: xs, es => ∃ e rest, es = e :: rest ∧ e.key = .int .i64 x.1 ∧ vrel g w σ x.2 e.val ∧ mrel g w σ xs rest
/-- A map's entries, in whatever order. -/
def mrelP (g : G) (w : World) (σ : Store) (es : List (Int × V)) (ents : List MapEntry) (clock : Nat) : Prop :=
  (∃ es', es'.Perm es ∧ (es'.map (·.1)).Nodup ∧ mrel g w σ es' ents) ∧ (ents.map (·.born)).Nodup ∧ ∀ e ∈ ents, e.born < clock
def rowRel (g : G) (w : World) (σ : Store) (arr : Array Value) (sz : Nat) (es : List (List C)) : Prop :=
  ∀ i e, es[i]? = some e → e.length = sz ∧ ∀ j c, e[j]? = some c → ∃ u, arr[i * sz + j]? = some u ∧ crel g w σ c u ∧ u.oneCell' = true
def orel (g : G) (w : World) (σ : Store) (id : Nat) : Ob → Prop
  | .cells _ sz es => es ≠ [] → g.ow (g.ρ id) = .ob id ∧ (∀ o, ¬ g.N (g.ρ id) o) ∧ ∃ arr t, w.heap[g.ρ id]? = some (.cells arr t (0, 0)) ∧ es.length * sz ≤ arr.size ∧ rowRel g w σ arr sz es
  | .mp es => g.ow (g.ρ id) = .ob id ∧ (∀ o, ¬ g.N (g.ρ id) o) ∧ ∃ ents clock, w.heap[g.ρ id]? = some (.map ents clock) ∧ mrelP g w σ es ents.toList clock
  | .tok sz fr => ∀ k n, fr[k]? = some n → (n = 0 ∧ ∃ a, g.tv id k = .slice a 0 0) ∨
      ∃ b o c arr t, g.tv id k = .slice (some ⟨b, o, none⟩) n c ∧ 0 < c ∧ n ≤ c ∧ g.ow b = .tk id k ∧ w.heap[b]? = some (.cells arr t (0, 0)) ∧ o + c * sz ≤ arr.size ∧ ∀ o', g.N b o' → o' < o + n * sz
structure Rel (g : G) (w : World) (σ : Store) : Prop where
  nb : ∀ b o, g.N b o → b < w.heap.size
  ob : ∀ id o, σ[id]? = some o → orel g w σ id o

theorem Ext.rowRel {g g' : G} {w w' : World} {σ σ' : Store} (H : Ext g w σ g' w' σ') {arr : Array Value} {sz : Nat} {es : List (List C)} (h : rowRel g w σ arr sz es) : Go.A.rowRel g' w' σ' arr sz es :=
  fun i e hi => ⟨(h i e hi).1, fun j c hj => by
    obtain ⟨u, a, b, c1⟩ := (h i e hi).2 j c hj
    exact ⟨u, a, H.crel c u b, c1⟩⟩
theorem Ext.mrel {g g' : G} {w w' : World} {σ σ' : Store} (H : Ext g w σ g' w' σ') : ∀ {es : List (Int × V)} {ents : List MapEntry}, mrel g w σ es ents → Go.A.mrel g' w' σ' es ents
  | [], _, h => h
  | x :: xs, _, h => by
    obtain ⟨e, rest, h1, h2, h3, h4⟩ := h
    exact ⟨e, rest, h1, h2, H.vrel _ _ h3, Ext.mrel H h4⟩
theorem mrelP_perm {g : G} {w : World} {σ : Store} {es es1 : List (Int × V)} {ents : List MapEntry} {clock : Nat} (h : es.Perm es1) (hm : mrelP g w σ es ents clock) : mrelP g w σ es1 ents clock := by
  obtain ⟨⟨es', h1, h2, h3⟩, h4⟩ := hm
  exact ⟨⟨es', h1.trans h, h2, h3⟩, h4⟩
theorem mrelP_to {g g' : G} {w w' : World} {σ σ' : Store} {es : List (Int × V)} {ents : List MapEntry} {clock : Nat} (h : mrelP g w σ es ents clock) (f : Int × V → Int × V) (hf : ∀ e, (f e).1 = e.1) (k : ∀ es', es'.Perm es → Go.A.mrel g w σ es' ents → Go.A.mrel g' w' σ' (es'.map f) ents) : Go.A.mrelP g' w' σ' (es.map f) ents clock := by
  obtain ⟨⟨es', h1, h2, h3⟩, h4⟩ := h
  refine ⟨⟨es'.map f, h1.map f, ?_, k es' h1 h3⟩, h4⟩
  have e : (es'.map f).map (·.1) = es'.map (·.1) := by
    rw [List.map_map]
    exact List.map_congr_left fun e _ => hf e
  rw [e]
  exact h2
theorem Ext.mrelP {g g' : G} {w w' : World} {σ σ' : Store} (H : Ext g w σ g' w' σ') {es : List (Int × V)} {ents : List MapEntry} {clock : Nat} (h : mrelP g w σ es ents clock) : Go.A.mrelP g' w' σ' es ents clock := by
  have := mrelP_to (g' := g') (w' := w') (σ' := σ') h id (fun _ => rfl) (fun es' _ h => by rw [List.map_id]; exact H.mrel h)
  rwa [List.map_id] at this

end Go.A

/- How the store and memory go on together. -/
namespace Go.A

def put1 {α : Type} (f : Nat → α) (k : Nat) (v : α) : Nat → α := fun i => if i = k then v else f i
@[simp] theorem put1_same {α : Type} (f : Nat → α) (k : Nat) (v : α) : put1 f k v k = v := by simp [put1]
theorem put1_ne {α : Type} (f : Nat → α) {k i : Nat} (v : α) (h : i ≠ k) : put1 f k v i = f i := by simp [put1, h]

theorem shapeOf_some {σ : Store} {id ver sz len : Nat} (h : shapeOf σ id = some (ver, sz, len)) : ∃ es, σ[id]? = some (.cells ver sz es) ∧ es.length = len := by
  unfold shapeOf at h
  cases ho : σ[id]? with
  | none => simp [ho] at h
  | some o =>
    cases o with
    | cells v s es => simp [ho, Ob.shape] at h; exact ⟨es, by simp [h], h.2.2⟩
    | tok s fr => simp [ho, Ob.shape] at h
    | mp es => simp [ho, Ob.shape] at h
theorem shapeOf_of {σ : Store} {id ver sz : Nat} {es : List (List C)} (h : σ[id]? = some (.cells ver sz es)) : shapeOf σ id = some (ver, sz, es.length) := by simp [shapeOf, h, Ob.shape]
theorem frOf_some {σ : Store} {t k n : Nat} (h : frOf σ t k = some n) : ∃ sz fr, σ[t]? = some (.tok sz fr) ∧ fr[k]? = some n := by
  unfold frOf at h
  cases ho : σ[t]? with
  | none => simp [ho] at h
  | some o =>
    cases o with
    | cells v s es => simp [ho, Ob.fr] at h
    | tok s fr => simp [ho, Ob.fr] at h; exact ⟨s, fr, rfl, h⟩
    | mp es => simp [ho, Ob.fr] at h
theorem frOf_of {σ : Store} {t k n sz : Nat} {fr : List Nat} (h : σ[t]? = some (.tok sz fr)) (hn : fr[k]? = some n) : frOf σ t k = some n := by simp [frOf, h, Ob.fr, hn]
theorem tokSz_some {σ : Store} {t sz : Nat} (h : tokSz σ t = some sz) : ∃ fr, σ[t]? = some (.tok sz fr) := by
  unfold tokSz at h
  cases ho : σ[t]? with
  | none => simp [ho] at h
  | some o =>
    cases o with
    | cells v s es => simp [ho, Ob.tsz] at h
    | tok s fr => simp [ho, Ob.tsz] at h; exact ⟨fr, by rw [h]⟩
    | mp es => simp [ho, Ob.tsz] at h
theorem tokSz_of {σ : Store} {t sz : Nat} {fr : List Nat} (h : σ[t]? = some (.tok sz fr)) : tokSz σ t = some sz := by simp [tokSz, h, Ob.tsz]
theorem lt_of_some {α : Type} {l : List α} {i : Nat} {x : α} (h : l[i]? = some x) : i < l.length := (List.getElem?_eq_some_iff.1 h).1

section
variable {g g' : G} {w w' : World} {σ σ' : Store}

/-- A block at which nothing has turned. -/
def Stands (g : G) (w : World) (g' : G) (w' : World) (b : Nat) : Prop := w'.heap[b]? = w.heap[b]? ∧ g'.ow b = g.ow b ∧ ∀ o, g'.N b o → g.N b o

theorem orel_keep (H : Ext g w σ g' w' σ') {id : Nat} {o : Ob} (hr : g'.ρ id = g.ρ id) (ht : ∀ k, g'.tv id k = g.tv id k)
    (hb : ∀ b, b < w.heap.size → g.ow b = .ob id ∨ (∃ k, g.ow b = .tk id k) → Stands g w g' w' b) (h : orel g w σ id o) : orel g' w' σ' id o := by
  cases o with
  | cells ver sz es =>
    intro hne
    obtain ⟨h1, h2, arr, t, h3, h4, h5⟩ := h hne
    have hlt : g.ρ id < w.heap.size := (Array.getElem?_eq_some_iff.1 h3).1
    obtain ⟨k1, k2, k3⟩ := hb _ hlt (.inl h1)
    rw [hr]
    exact ⟨k2.trans h1, fun o ho => h2 o (k3 o ho), arr, t, k1.trans h3, h4, H.rowRel h5⟩
  | mp es =>
    obtain ⟨h1, h2, ents, clock, h3, h4⟩ := h
    have hlt : g.ρ id < w.heap.size := (Array.getElem?_eq_some_iff.1 h3).1
    obtain ⟨k1, k2, k3⟩ := hb _ hlt (.inl h1)
    unfold orel
    rw [hr]
    exact ⟨k2.trans h1, fun o ho => h2 o (k3 o ho), ents, clock, k1.trans h3, H.mrelP h4⟩
  | tok sz fr =>
    intro k n hn
    rw [ht]
    rcases h k n hn with h | ⟨b, o, c, arr, t, h1, h2, h3, h4, h5, h6, h7⟩
    · exact .inl h
    · have hlt : b < w.heap.size := (Array.getElem?_eq_some_iff.1 h5).1
      obtain ⟨k1, k2, k3⟩ := hb _ hlt (.inr ⟨k, h4⟩)
      exact .inr ⟨b, o, c, arr, t, h1, h2, h3, k2.trans h4, k1.trans h5, h6, fun o' ho' => h7 o' (k3 o' ho')⟩

/-! ### New blocks -/
theorem heap_alloc_old (w : World) (o : Obj) {b : Nat} (h : b < w.heap.size) : (w.alloc o).heap[b]? = w.heap[b]? := by
  show (w.heap.push o)[b]? = _
  rw [Array.getElem?_push, if_neg (by omega)]
theorem heap_alloc_at (w : World) (o : Obj) : (w.alloc o).heap[w.heap.size]? = some o := by
  show (w.heap.push o)[w.heap.size]? = _
  simp
theorem cell_alloc_old (w : World) (o : Obj) {b i : Nat} (h : b < w.heap.size) : (w.alloc o).cell? ⟨b, i, none⟩ = w.cell? ⟨b, i, none⟩ := by
  unfold World.cell?
  rw [heap_alloc_old w o h]
theorem size_alloc (w : World) (o : Obj) : (w.alloc o).heap.size = w.heap.size + 1 := World.size_alloc w o

/-- A block more, of which nothing is said. -/
theorem Ext.alloc (R : Rel g w σ) (o : Obj) (g' : G) (hρ : ∀ id, id < σ.length → g'.ρ id = g.ρ id) (ht : ∀ t k n, frOf σ t k = some n → g'.tv t k = g.tv t k) (hw : ∀ b, b < w.heap.size → g'.ow b = g.ow b)
    (hN : ∀ b o, b < w.heap.size → (g'.N b o ↔ g.N b o)) (os : List Ob) : Ext g w σ g' (w.alloc o) (σ ++ os) where
  os := rfl
  tape := rfl
  output := rfl
  size := by rw [size_alloc]; omega
  keeps := fun b i h => ⟨(hN b i (R.nb b i h)).2 h, cell_alloc_old w o (R.nb b i h)⟩
  len := by simp
  shape := fun id ver sz len h => by
    obtain ⟨es, h1, h2⟩ := shapeOf_some h
    have hlt := lt_of_some h1
    refine .inl ⟨by unfold shapeOf; rw [List.getElem?_append_left hlt]; exact h, hρ id hlt, fun _ arr t ha => ⟨arr, ?_, rfl⟩⟩
    rw [heap_alloc_old w o (Array.getElem?_eq_some_iff.1 ha).1]
    exact ha
  map := fun id es h => ⟨hρ id (lt_of_some h), es, by rw [List.getElem?_append_left (lt_of_some h)]; exact h⟩
  tok := fun t k n h => by
    obtain ⟨sz, fr, h1, h2⟩ := frOf_some h
    exact ⟨n, frOf_of (by rw [List.getElem?_append_left (lt_of_some h1)]; exact h1) h2, Nat.le_refl _, fun _ => ht t k n h⟩
  tsz := fun t sz h => by
    obtain ⟨fr, h1⟩ := tokSz_some h
    exact tokSz_of (fr := fr) (by rw [List.getElem?_append_left (lt_of_some h1)]; exact h1)
  ow := hw
  new := fun b i h hb _ => (hN b i hb).1 h
  frame := fun b hb _ => heap_alloc_old w o hb

/-- Frozen data in a new block. -/
def G.freeze (g : G) (b : Nat) : G := { g with N := fun b' o => g.N b' o ∨ b' = b }
theorem alloc_frozen (R : Rel g w σ) (o : Obj) : Ext g w σ (g.freeze w.heap.size) (w.alloc o) σ ∧ Rel (g.freeze w.heap.size) (w.alloc o) σ := by
  have hN : ∀ b i, b < w.heap.size → ((g.freeze w.heap.size).N b i ↔ g.N b i) := fun b i hb =>
    ⟨fun h => h.elim id (fun e => by omega), .inl⟩
  have H : Ext g w σ (g.freeze w.heap.size) (w.alloc o) σ := by
    have := Ext.alloc R o (g.freeze w.heap.size) (fun _ _ => rfl) (fun _ _ _ _ => rfl) (fun _ _ => rfl) hN []
    simpa using this
  refine ⟨H, ⟨fun b i h => ?_, fun id ob h => orel_keep H rfl (fun _ => rfl) (fun b hb _ => ⟨heap_alloc_old w o hb, rfl, fun i => (hN b i hb).1⟩) (R.ob id ob h)⟩⟩
  rw [size_alloc]
  rcases h with h | h
  · have := R.nb b i h; omega
  · omega

/-- An object with a block of its own. -/
def G.own (g : G) (id b : Nat) : G := { g with ρ := put1 g.ρ id b, ow := put1 g.ow b (.ob id) }
theorem alloc_own (R : Rel g w σ) (ob : Ob) (o : Obj) (hob : ∀ {g' : G} {σ' : Store}, Ext g w σ g' (w.alloc o) σ' → g'.ρ σ.length = w.heap.size → g'.ow w.heap.size = .ob σ.length → (∀ i, ¬ g'.N w.heap.size i) → orel g' (w.alloc o) σ' σ.length ob) :
    Ext g w σ (g.own σ.length w.heap.size) (w.alloc o) (σ ++ [ob]) ∧ Rel (g.own σ.length w.heap.size) (w.alloc o) (σ ++ [ob]) := by
  have H : Ext g w σ (g.own σ.length w.heap.size) (w.alloc o) (σ ++ [ob]) :=
    Ext.alloc R o (g.own σ.length w.heap.size) (fun id h => put1_ne g.ρ (k := σ.length) (i := id) _ (by omega)) (fun _ _ _ _ => rfl) (fun b h => put1_ne g.ow (k := w.heap.size) (i := b) _ (by omega)) (fun _ _ _ => Iff.rfl) [ob]
  refine ⟨H, ⟨fun b i h => by rw [size_alloc]; have := R.nb b i h; omega, fun id x h => ?_⟩⟩
  by_cases hlt : id < σ.length
  · rw [List.getElem?_append_left hlt] at h
    exact orel_keep H (put1_ne g.ρ (k := σ.length) (i := id) _ (by omega)) (fun _ => rfl) (fun b hb _ => ⟨heap_alloc_old w o hb, put1_ne g.ow (k := w.heap.size) (i := b) _ (by omega), fun _ h => h⟩) (R.ob id x h)
  · have hid : id = σ.length := by
      have := lt_of_some h
      simp at this
      omega
    subst hid
    simp at h
    subst h
    exact hob H (by simp [G.own]) (by simp [G.own]) (fun i hn => by have := R.nb _ i hn; omega)

/-! ### An object is replaced -/
theorem get_set {id j : Nat} {new : Ob} (σ : Store) : (σ.set id new)[j]? = if id = j ∧ id < σ.length then some new else σ[j]? := by
  rw [List.getElem?_set]
  by_cases h : id = j
  · subst h
    by_cases h2 : id < σ.length
    · simp [h2]
    · simp [h2, List.getElem?_eq_none (Nat.le_of_not_lt h2)]
  · simp [h]
theorem shape_set_ne {id j : Nat} {new : Ob} (h : j ≠ id) : shapeOf (σ.set id new) j = shapeOf σ j := by
  unfold shapeOf
  rw [List.getElem?_set_ne (Ne.symm h)]
theorem fr_set_ne {id j k : Nat} {new : Ob} (h : j ≠ id) : frOf (σ.set id new) j k = frOf σ j k := by
  unfold frOf
  rw [List.getElem?_set_ne (Ne.symm h)]
theorem get_set_same {id : Nat} {old new : Ob} (h : σ[id]? = some old) : (σ.set id new)[id]? = some new := by
  rw [get_set]
  simp [lt_of_some h]

theorem replace {id : Nat} {old new : Ob} (R : Rel g w σ) (hid : σ[id]? = some old) (Tc : Nat → Prop)
    (hos : w'.os = w.os) (htape : w'.tape = w.tape) (hout : w'.output = w.output) (hsize : w.heap.size ≤ w'.heap.size)
    (hst : ∀ b, b < w.heap.size → ¬ Tc b → Stands g w g' w' b)
    (htc : ∀ b, Tc b → (g.ow b = .ob id ∨ ∃ k, g.ow b = .tk id k) ∧ g'.ow b = g.ow b ∧ ∀ o, g.N b o → g'.N b o ∧ w'.cell? ⟨b, o, none⟩ = w.cell? ⟨b, o, none⟩)
    (hN : ∀ b o, ¬ Tc b → g.N b o → g'.N b o)
    (hρ : ∀ j, j ≠ id → g'.ρ j = g.ρ j) (htv : ∀ j k, j ≠ id → g'.tv j k = g.tv j k)
    (hnb : ∀ b o, g'.N b o → b < w'.heap.size)
    (hshape : ∀ ver sz len, shapeOf σ id = some (ver, sz, len) →
      (shapeOf (σ.set id new) id = some (ver, sz, len) ∧ g'.ρ id = g.ρ id ∧ (len ≠ 0 → ∀ arr t, w.heap[g.ρ id]? = some (.cells arr t (0, 0)) → ∃ arr', w'.heap[g.ρ id]? = some (.cells arr' t (0, 0)) ∧ arr'.size = arr.size)) ∨
      ∃ ver1 len1, shapeOf (σ.set id new) id = some (ver1, sz, len1) ∧ ver < ver1)
    (hmap : ∀ es, old = .mp es → g'.ρ id = g.ρ id ∧ ∃ es', new = .mp es')
    (htok : ∀ k n, frOf σ id k = some n → ∃ n', frOf (σ.set id new) id k = some n' ∧ n ≤ n' ∧ (n = n' → g'.tv id k = g.tv id k))
    (htsz : ∀ sz fr, old = .tok sz fr → ∃ fr', new = .tok sz fr')
    (horel : Ext g w σ g' w' (σ.set id new) → orel g' w' (σ.set id new) id new) :
    Ext g w σ g' w' (σ.set id new) ∧ Rel g' w' (σ.set id new) := by
  have hcell : ∀ b o, b < w.heap.size → ¬ Tc b → w'.cell? ⟨b, o, none⟩ = w.cell? ⟨b, o, none⟩ := fun b o hb ht => by
    unfold World.cell?
    rw [(hst b hb ht).1]
  have hkeep : Keeps w w' g.N g'.N := fun b o h => by
    by_cases ht : Tc b
    · exact (htc b ht).2.2 o h
    · exact ⟨hN b o ht h, hcell b o (R.nb b o h) ht⟩
  have H : Ext g w σ g' w' (σ.set id new) := {
    os := hos
    tape := htape
    output := hout
    size := hsize
    keeps := hkeep
    len := by simp
    shape := fun j ver sz len hj => by
      by_cases e : j = id
      · subst e; exact hshape ver sz len hj
      · refine .inl ⟨by rw [shape_set_ne e]; exact hj, hρ j e, fun hl arr t ha => ⟨arr, ?_, rfl⟩⟩
        obtain ⟨es, h1, h2⟩ := shapeOf_some hj
        have hne : es ≠ [] := fun h => by subst h; exact hl h2.symm
        obtain ⟨k1, _, arr', t', k3, _⟩ := R.ob j _ h1 hne
        have hlt : g.ρ j < w.heap.size := (Array.getElem?_eq_some_iff.1 k3).1
        have ht : ¬ Tc (g.ρ j) := fun ht => by
          rcases (htc _ ht).1 with h | ⟨k, h⟩
          · rw [k1] at h; injection h with h; exact e h
          · rw [k1] at h; cases h
        rw [(hst _ hlt ht).1]; exact ha
    map := fun j es hj => by
      by_cases e : j = id
      · subst e
        obtain ⟨a, es', b⟩ := hmap es (by rw [hid] at hj; injection hj)
        exact ⟨a, es', by rw [get_set_same hid, b]⟩
      · exact ⟨hρ j e, es, by rw [List.getElem?_set_ne (Ne.symm e)]; exact hj⟩
    tok := fun j k n hj => by
      by_cases e : j = id
      · subst e; exact htok k n hj
      · exact ⟨n, by rw [fr_set_ne e]; exact hj, Nat.le_refl _, fun _ => htv j k e⟩
    tsz := fun j sz hj => by
      obtain ⟨fr, h1⟩ := tokSz_some hj
      by_cases e : j = id
      · subst e
        rw [hid] at h1
        injection h1 with h1
        obtain ⟨fr', h2⟩ := htsz sz fr h1
        exact tokSz_of (fr := fr') (by rw [get_set_same hid, h2])
      · exact tokSz_of (fr := fr) (by rw [List.getElem?_set_ne (Ne.symm e)]; exact h1)
    ow := fun b hb => by
      by_cases ht : Tc b
      · exact (htc b ht).2.1
      · exact (hst b hb ht).2.1
    new := fun b o h hb ho => by
      by_cases ht : Tc b
      · rcases (htc b ht).1 with h | ⟨k, h⟩ <;> rw [ho] at h <;> cases h
      · exact (hst b hb ht).2.2 o h
    frame := fun b hb ho => by
      by_cases ht : Tc b
      · rcases (htc b ht).1 with h | ⟨k, h⟩ <;> rw [ho] at h <;> cases h
      · exact (hst b hb ht).1 }
  refine ⟨H, ⟨hnb, fun j x hj => ?_⟩⟩
  by_cases e : j = id
  · subst e
    rw [get_set_same hid] at hj
    injection hj with hj
    subst hj
    exact horel H
  · rw [List.getElem?_set_ne (Ne.symm e)] at hj
    refine orel_keep H (hρ j e) (fun k => htv j k e) (fun b hb hob => hst b hb fun ht => ?_) (R.ob j x hj)
    rcases (htc b ht).1 with h | ⟨k, h⟩ <;> rcases hob with h' | ⟨k', h'⟩ <;> rw [h] at h'
    · injection h' with h'; exact e h'.symm
    · cases h'
    · cases h'
    · injection h' with h'; exact e h'.symm

end
end Go.A

/- Stores, appends, maps: what they do to the store and to memory. -/
namespace Go.A

/-- Values over others, from a place on. -/
def splice (arr : Array Value) (p : Nat) (us : List Value) : Array Value := (arr.toList.take p ++ us ++ arr.toList.drop (p + us.length)).toArray
theorem splice_size {arr : Array Value} {p : Nat} {us : List Value} (h : p + us.length ≤ arr.size) : (splice arr p us).size = arr.size := by
  unfold splice
  simp
  omega
theorem splice_get {arr : Array Value} {p : Nat} {us : List Value} (h : p + us.length ≤ arr.size) (q : Nat) :
    (splice arr p us)[q]? = if q < p then arr[q]? else if q < p + us.length then us[q - p]? else arr[q]? := by
  unfold splice
  rw [List.getElem?_toArray, List.append_assoc, List.getElem?_append]
  have hp : (arr.toList.take p).length = p := by simp; omega
  rw [hp]
  by_cases h1 : q < p
  · rw [if_pos h1, if_pos h1, List.getElem?_take, if_pos h1, Array.getElem?_toList]
  · rw [if_neg h1, if_neg h1, List.getElem?_append]
    by_cases h2 : q < p + us.length
    · rw [if_pos (by omega), if_pos h2]
    · rw [if_neg (by omega), if_neg h2, List.getElem?_drop, Array.getElem?_toList]
      congr 1
      omega
theorem over_some {e e' cs : List C} {off : Nat} (h : over e off cs = some e') : off + cs.length ≤ e.length ∧ e'.length = e.length ∧
    ∀ j, e'[j]? = if j < off then e[j]? else if j < off + cs.length then cs[j - off]? else e[j]? := by
  unfold over at h
  split at h
  · rename_i hl
    injection h with h
    subst h
    refine ⟨hl, by simp; omega, fun j => ?_⟩
    rw [List.getElem?_append]
    have hp : (e.take off).length = off := by simp; omega
    rw [hp]
    by_cases h1 : j < off
    · rw [if_pos h1, if_pos h1, List.getElem?_take, if_pos h1]
    · rw [if_neg h1, if_neg h1, List.getElem?_append]
      by_cases h2 : j < off + cs.length
      · rw [if_pos (by omega), if_pos h2]
      · rw [if_neg (by omega), if_neg h2, List.getElem?_drop]
        congr 1
        omega
  · cases h

theorem crels_length {g : G} {w : World} {σ : Store} : ∀ {cs : List C} {us : List Value}, crels g w σ cs us → us.length = cs.length
  | [], us, h => by simp only [crels] at h; simp [h]
  | c :: cs, us, h => by
    simp only [crels] at h
    obtain ⟨v, vs, rfl, _, h3⟩ := h
    simp [crels_length h3]
theorem crels_get {g : G} {w : World} {σ : Store} : ∀ {cs : List C} {us : List Value}, crels g w σ cs us → ∀ {j : Nat} {c : C}, cs[j]? = some c → ∃ u, us[j]? = some u ∧ crel g w σ c u
  | [], _, _, j, c, h => by simp at h
  | x :: cs, us, hr, j, c, h => by
    simp only [crels] at hr
    obtain ⟨v, vs, rfl, h2, h3⟩ := hr
    cases j with
    | zero => simp at h; subst h; exact ⟨v, by simp, h2⟩
    | succ j => simpa using crels_get h3 (j := j) (c := c) (by simpa using h)
theorem crels_of {g : G} {w : World} {σ : Store} : ∀ {cs : List C} {us : List Value}, us.length = cs.length → (∀ (j : Nat) (c : C) (u : Value), cs[j]? = some c → us[j]? = some u → crel g w σ c u) → crels g w σ cs us
  | [], us, hl, _ => by simp only [crels]; exact List.eq_nil_of_length_eq_zero (by simpa using hl)
  | c :: cs, [], hl, _ => by simp at hl
  | c :: cs, v :: vs, hl, h => by
    simp only [crels]
    exact ⟨v, vs, rfl, h 0 c v (by simp) (by simp), crels_of (by simpa using hl) fun j c u hc hu => h (j + 1) c u (by simpa using hc) (by simpa using hu)⟩

theorem apart {i i' sz j q : Nat} (h : i ≠ i') (hj : j < sz) (hq : q < sz) : i * sz + q ≠ i' * sz + j := by
  rcases Nat.lt_or_gt_of_ne h with h | h
  · have : (i + 1) * sz ≤ i' * sz := Nat.mul_le_mul_right _ h
    rw [Nat.add_mul] at this
    omega
  · have : (i' + 1) * sz ≤ i * sz := Nat.mul_le_mul_right _ h
    rw [Nat.add_mul] at this
    omega
theorem inside {i n sz q : Nat} (h : i < n) (hq : q < sz) : i * sz + q < n * sz := by
  have : (i + 1) * sz ≤ n * sz := Nat.mul_le_mul_right _ h
  rw [Nat.add_mul] at this
  omega
theorem inside' {i n sz q : Nat} (h : i < n) (hq : q ≤ sz) : i * sz + q ≤ n * sz := by
  have : (i + 1) * sz ≤ n * sz := Nat.mul_le_mul_right _ h
  rw [Nat.add_mul] at this
  omega

section
variable {g : G} {w : World} {σ : Store}

theorem write_cells (R : Rel g w σ) {id ver sz i off : Nat} {es : List (List C)} {e e' cs : List C} {us : List Value} (hid : σ[id]? = some (.cells ver sz es)) (hi : es[i]? = some e) (ho : over e off cs = some e')
    (hus : crels g w σ cs us) (h1 : ∀ u ∈ us, u.oneCell' = true) :
    ∃ arr t, w.heap[g.ρ id]? = some (.cells arr t (0, 0)) ∧ i * sz + off + us.length ≤ arr.size ∧
      Ext g w σ g (w.setRow (g.ρ id) (splice arr (i * sz + off) us)) (σ.set id (.cells ver sz (es.set i e'))) ∧
      Rel g (w.setRow (g.ρ id) (splice arr (i * sz + off) us)) (σ.set id (.cells ver sz (es.set i e'))) := by
  have hne : es ≠ [] := fun h => by subst h; simp at hi
  obtain ⟨how, hN, arr, t, hh, hsz, hrow⟩ := R.ob id _ hid hne
  obtain ⟨hov, hle, hget⟩ := over_some ho
  have hul := crels_length hus
  have hel := (hrow i e hi).1
  have hilt := lt_of_some hi
  have hfit : i * sz + off + us.length ≤ arr.size := by
    have := inside' (q := off + us.length) hilt (by omega : off + us.length ≤ sz)
    omega
  refine ⟨arr, t, hh, hfit, ?_⟩
  have hglt : g.ρ id < w.heap.size := (Array.getElem?_eq_some_iff.1 hh).1
  refine replace (g' := g) R hid (fun b => b = g.ρ id) rfl rfl rfl (by simp) (fun b hb ht => ⟨setRow_other w _ _ _ ht, rfl, fun _ h => h⟩)
    (fun b hb => ⟨.inl (by rw [hb]; exact how), rfl, fun o h => absurd (by rw [hb] at h; exact h) (hN o)⟩) (fun _ _ _ h => h) (fun _ _ => rfl) (fun _ _ _ => rfl) (fun b o h => by simpa using R.nb b o h) ?_ ?_ ?_ (fun _ _ h => by cases h) ?_
  · intro ver' sz' len' hs
    refine .inl ⟨?_, rfl, fun _ arr0 t0 h0 => ?_⟩
    · rw [shapeOf_of hid] at hs
      injection hs with hs
      rw [shapeOf_of (get_set_same hid), ← hs]
      simp
    · rw [hh] at h0
      injection h0 with h0
      injection h0 with h0 h0t
      subst h0
      subst h0t
      exact ⟨_, setRow_heap w _ _ _ _ _ hh, splice_size hfit⟩
  · intro es' h; cases h
  · intro k n h; simp [frOf, hid, Ob.fr] at h
  · intro H hne'
    refine ⟨how, hN, _, t, setRow_heap w _ _ _ _ _ hh, by rw [splice_size hfit]; simpa using hsz, fun i' x hx => ?_⟩
    rw [List.getElem?_set] at hx
    by_cases hii : i = i'
    · subst hii
      simp [hilt] at hx
      subst hx
      refine ⟨hle.trans hel, fun j c hc => ?_⟩
      rw [hget] at hc
      rw [splice_get hfit]
      by_cases c1 : j < off
      · rw [if_pos c1] at hc
        obtain ⟨u, a, b, d⟩ := (hrow i e hi).2 j c hc
        exact ⟨u, by rw [if_pos (by omega)]; exact a, H.crel c u b, d⟩
      · rw [if_neg c1] at hc
        by_cases c2 : j < off + cs.length
        · rw [if_pos c2] at hc
          obtain ⟨u, a, b⟩ := crels_get hus hc
          refine ⟨u, ?_, H.crel c u b, h1 u (List.mem_of_getElem? a)⟩
          rw [if_neg (by omega), if_pos (by omega), show i * sz + j - (i * sz + off) = j - off from by omega]
          exact a
        · rw [if_neg c2] at hc
          obtain ⟨u, a, b, d⟩ := (hrow i e hi).2 j c hc
          exact ⟨u, by rw [if_neg (by omega), if_neg (by omega)]; exact a, H.crel c u b, d⟩
    · rw [if_neg hii] at hx
      refine ⟨(hrow i' x hx).1, fun j c hc => ?_⟩
      obtain ⟨u, a, b, d⟩ := (hrow i' x hx).2 j c hc
      have hj : j < sz := by have := lt_of_some hc; have := (hrow i' x hx).1; omega
      refine ⟨u, ?_, H.crel c u b, d⟩
      rw [splice_get hfit]
      by_cases c1 : i' * sz + j < i * sz + off
      · rw [if_pos c1]; exact a
      · rw [if_neg c1]
        by_cases c2 : i' * sz + j < i * sz + off + us.length
        · exfalso
          have := apart (q := i' * sz + j - i * sz) hii hj (by omega)
          omega
        · rw [if_neg c2]; exact a

/-! ### Tickets -/
def G.setTv (g : G) (t k : Nat) (u : Value) : G := { g with tv := fun t' k' => if t' = t ∧ k' = k then u else g.tv t' k' }
theorem G.setTv_same (g : G) (t k : Nat) (u : Value) : (g.setTv t k u).tv t k = u := by simp [G.setTv]
theorem G.setTv_ne (g : G) {t k t' k' : Nat} (u : Value) (h : ¬ (t' = t ∧ k' = k)) : (g.setTv t k u).tv t' k' = g.tv t' k' := by simp [G.setTv, h]

/-- A value whose elements lie in a row of cells that may be counted on. -/
theorem rep_sl {N : Cells} {xs : List (List Fz)} {b o c sz : Nat} (hl : lenAll sz xs) (hc : xs.length ≤ c) (h : repRows w N sz xs b o) : rep w N (.sl xs) (.slice (some ⟨b, o, none⟩) xs.length c) := by
  simp only [rep]
  exact ⟨_, c, sz, rfl, hc, hl, .inr ⟨b, o, rfl, h⟩⟩

/-- The values of a frozen slice's elements, in line. -/
def Lay (w : World) (N : Cells) (sz : Nat) (xs : List (List Fz)) (us : List Value) : Prop :=
  us.length = xs.length * sz ∧ lenAll sz xs ∧ ∀ i e, xs[i]? = some e → ∀ j x, e[j]? = some x → ∃ u, us[i * sz + j]? = some u ∧ rep w N x u ∧ u.oneCell' = true
theorem Lay.mono {w w' : World} {N N' : Cells} {sz : Nat} {xs : List (List Fz)} {us : List Value} (h : Lay w N sz xs us) (H : Keeps w w' N N') : Lay w' N' sz xs us :=
  ⟨h.1, h.2.1, fun i e hi j x hj => by
    obtain ⟨u, a, b, c⟩ := h.2.2 i e hi j x hj
    exact ⟨u, a, rep_mono H x u b, c⟩⟩
theorem Lay.append {N : Cells} {sz : Nat} {xs ys : List (List Fz)} {us vs : List Value} (h : Lay w N sz xs us) (k : Lay w N sz ys vs) : Lay w N sz (xs ++ ys) (us ++ vs) := by
  refine ⟨by rw [List.length_append, List.length_append, h.1, k.1, Nat.add_mul], lenAll_of fun e he => ?_, fun i e hi j x hj => ?_⟩
  · rcases List.mem_append.1 he with he | he
    · exact lenAll_mem h.2.1 e he
    · exact lenAll_mem k.2.1 e he
  · rw [List.getElem?_append] at hi
    by_cases c : i < xs.length
    · rw [if_pos c] at hi
      obtain ⟨u, a, b⟩ := h.2.2 i e hi j x hj
      refine ⟨u, ?_, b⟩
      rw [List.getElem?_append_left (lt_of_some a)]
      exact a
    · rw [if_neg c] at hi
      obtain ⟨u, a, b⟩ := k.2.2 _ e hi j x hj
      refine ⟨u, ?_, b⟩
      have : i * sz + j = us.length + ((i - xs.length) * sz + j) := by
        rw [h.1, Nat.sub_mul]
        have : xs.length * sz ≤ i * sz := Nat.mul_le_mul_right _ (Nat.le_of_not_lt c)
        omega
      rw [this, List.getElem?_append_right (by omega), Nat.add_sub_cancel_left]
      exact a
/-- What is read lies in line. -/
theorem lay_of_rep {N : Cells} {xs : List (List Fz)} {u : Value} (h : rep w N (.sl xs) u) (h1 : ∀ x u, rep w N x u → u.oneCell' = true) : ∃ a c sz us, u = .slice a xs.length c ∧ xs.length ≤ c ∧ Lay w N sz xs us ∧ (xs = [] ∨ ∃ b o, a = some ⟨b, o, none⟩ ∧ ∀ j v, us[j]? = some v → w.cell? ⟨b, o + j, none⟩ = some v) := by
  simp only [rep] at h
  obtain ⟨a, c, sz, e, hc, hl, hr⟩ := h
  rcases hr with rfl | ⟨b, o, rfl, hr⟩
  · exact ⟨a, c, sz, [], e, hc, ⟨by simp, hl, fun i e h => by simp at h⟩, .inl rfl⟩
  · refine ⟨_, c, sz, (List.range (xs.length * sz)).map fun j => (w.cell? ⟨b, o + j, none⟩).getD undef, e, hc, ⟨by simp, hl, fun i e hi j x hj => ?_⟩, .inr ⟨b, o, rfl, fun j v hv => ?_⟩⟩
    · have hlt := inside (lt_of_some hi) (by have := lt_of_some hj; have := lenAll_get hl hi; omega : j < sz)
      obtain ⟨u, k1, k2, k3⟩ := repRow_get (repRows_get hr hi) hj
      refine ⟨u, ?_, k3, h1 x u k3⟩
      rw [List.getElem?_map, List.getElem?_range hlt]
      simp only [Option.map_some]
      rw [show o + (i * sz + j) = o + i * sz + j from by omega, k2]
      rfl
    · rw [List.getElem?_map] at hv
      cases hj : (List.range (xs.length * sz))[j]? with
      | none => rw [hj] at hv; cases hv
      | some j' =>
        have hlt := lt_of_some hj
        simp at hlt
        rw [List.getElem?_range hlt] at hj
        injection hj with hj
        subst hj
        rw [List.getElem?_range hlt] at hv
        simp only [Option.map_some] at hv
        -- every cell there is one of an element's
        have hsz : 0 < sz := by
          rcases Nat.eq_zero_or_pos sz with h0 | h0
          · subst h0; simp at hlt
          · exact h0
        have hi : j / sz < xs.length := (Nat.div_lt_iff_lt_mul hsz).2 hlt
        have hj : j % sz < sz := Nat.mod_lt _ hsz
        have hel := lenAll_get hl (List.getElem?_eq_getElem hi)
        obtain ⟨u, k1, k2, k3⟩ := repRow_get (repRows_get hr (List.getElem?_eq_getElem hi)) (List.getElem?_eq_getElem (by omega : j % sz < xs[j / sz].length))
        have hjj : o + j / sz * sz + j % sz = o + j := by
          have := Nat.div_add_mod j sz
          rw [Nat.mul_comm] at this
          omega
        rw [hjj] at k2
        rw [k2] at hv ⊢
        exact hv
theorem rows_of_lay {N N' : Cells} {w' : World} {sz b o : Nat} {xs : List (List Fz)} {us : List Value} (h : Lay w N sz xs us) (H : Keeps w w' N N') (hc : ∀ j v, us[j]? = some v → N' b (o + j) ∧ w'.cell? ⟨b, o + j, none⟩ = some v) : repRows w' N' sz xs b o :=
  repRows_of fun i e hi => repRow_of fun j x hj => by
    obtain ⟨u, a, k, _⟩ := h.2.2 i e hi j x hj
    obtain ⟨c1, c2⟩ := hc _ u a
    rw [show o + (i * sz + j) = o + i * sz + j from by omega] at c1 c2
    exact ⟨u, c1, c2, rep_mono H x u k⟩
end
end Go.A

/- Appends. -/
namespace Go.A
section
variable {g : G} {w : World} {σ : Store}

theorem cell_setRow_at {w : World} {b i : Nat} {arr arr' : Array Value} {t : TypeId} (h : w.heap[b]? = some (.cells arr t (0, 0))) : (w.setRow b arr').cell? ⟨b, i, none⟩ = arr'[i]? := cell_setRow_same w b i arr arr' t (0, 0) h
theorem cell_at {w : World} {b i : Nat} {arr : Array Value} {t : TypeId} {fr : Nat × Nat} (h : w.heap[b]? = some (.cells arr t fr)) : w.cell? ⟨b, i, none⟩ = arr[i]? := by simp [World.cell?, h]

/-- Other tickets of the same family stay as they were. -/
theorem tok_others {g' : G} {w' : World} {t k n sz : Nat} {fr : List Nat} (R : Rel g w σ) (ht : σ[t]? = some (.tok sz fr)) (htv : ∀ k', k' ≠ k → g'.tv t k' = g.tv t k') (hst : ∀ b k', b < w.heap.size → g.ow b = .tk t k' → k' ≠ k → Stands g w g' w' b)
    (hk : ∀ n', (fr.set k n)[k]? = some n' → (n' = 0 ∧ ∃ a, g'.tv t k = .slice a 0 0) ∨
      ∃ b o c arr ty, g'.tv t k = .slice (some ⟨b, o, none⟩) n' c ∧ 0 < c ∧ n' ≤ c ∧ g'.ow b = .tk t k ∧ w'.heap[b]? = some (.cells arr ty (0, 0)) ∧ o + c * sz ≤ arr.size ∧ ∀ o', g'.N b o' → o' < o + n' * sz) : orel g' w' (σ.set t (.tok sz (fr.set k n))) t (.tok sz (fr.set k n)) := by
  intro k' n' h
  by_cases e : k' = k
  · subst e; exact hk n' h
  · rw [List.getElem?_set_ne (Ne.symm e)] at h
    rw [htv k' e]
    rcases R.ob t _ ht k' n' h with h | ⟨b, o, c, arr, ty, h1, h2, h3, h4, h5, h6, h7⟩
    · exact .inl h
    · obtain ⟨k1, k2, k3⟩ := hst b k' (Array.getElem?_eq_some_iff.1 h5).1 h4 e
      exact .inr ⟨b, o, c, arr, ty, h1, h2, h3, k2.trans h4, k1.trans h5, h6, fun o' ho' => h7 o' (k3 o' ho')⟩

theorem fr_set_same {t k n n' sz : Nat} {fr : List Nat} (ht : σ[t]? = some (.tok sz fr)) (hn : fr[k]? = some n) : frOf (σ.set t (.tok sz (fr.set k n'))) t k = some n' := by
  refine frOf_of (get_set_same ht) ?_
  rw [List.getElem?_set]
  simp [lt_of_some hn]

/-- In place: there is room. -/
theorem tok_room (R : Rel g w σ) {t k sz b o c : Nat} {fr : List Nat} {xs ys : List (List Fz)} {vs : List Value} (ht : σ[t]? = some (.tok sz fr)) (hn : fr[k]? = some xs.length) (hu : g.tv t k = .slice (some ⟨b, o, none⟩) xs.length c)
    (hx0 : 0 < xs.length + ys.length) (hx : rep w g.N (.sl xs) (.slice (some ⟨b, o, none⟩) xs.length c)) (hsx : lenAll sz xs) (hy : Lay w g.N sz ys vs) (hroom : xs.length + ys.length ≤ c) :
    ∃ arr ty g', w.heap[b]? = some (.cells arr ty (0, 0)) ∧ o + xs.length * sz + vs.length ≤ arr.size ∧
      Ext g w σ g' (w.setRow b (splice arr (o + xs.length * sz) vs)) (σ.set t (.tok sz (fr.set k (xs.length + ys.length)))) ∧
      Rel g' (w.setRow b (splice arr (o + xs.length * sz) vs)) (σ.set t (.tok sz (fr.set k (xs.length + ys.length)))) ∧
      crel g' (w.setRow b (splice arr (o + xs.length * sz) vs)) (σ.set t (.tok sz (fr.set k (xs.length + ys.length)))) (.ap t k (xs ++ ys)) (.slice (some ⟨b, o, none⟩) (xs.length + ys.length) c) := by
  have htok := R.ob t _ ht k _ hn
  rcases htok with ⟨h0, a0, ha0⟩ | ⟨b', o', c', arr, ty, h1, _, h3, h4, h5, h6, h7⟩
  · rw [hu] at ha0
    injection ha0 with _ _ ha0
    omega
  rw [hu] at h1
  injection h1 with h1 _ h1c
  injection h1 with h1
  injection h1 with h1a h1b
  subst h1a h1b h1c
  have hm : (xs.length + ys.length) * sz ≤ c * sz := Nat.mul_le_mul_right _ hroom
  rw [Nat.add_mul] at hm
  have hfit : o + xs.length * sz + vs.length ≤ arr.size := by rw [hy.1]; omega
  have hblt : b < w.heap.size := (Array.getElem?_eq_some_iff.1 h5).1
  let g' : G := { g.setTv t k (.slice (some ⟨b, o, none⟩) (xs.length + ys.length) c) with N := fun b1 o1 => g.N b1 o1 ∨ (b1 = b ∧ o + xs.length * sz ≤ o1 ∧ o1 < o + (xs.length + ys.length) * sz) }
  have hcell : ∀ o1, g.N b o1 → (w.setRow b (splice arr (o + xs.length * sz) vs)).cell? ⟨b, o1, none⟩ = w.cell? ⟨b, o1, none⟩ := fun o1 h => by
    rw [cell_setRow_at h5, cell_at h5, splice_get hfit, if_pos (h7 o1 h)]
  have HR := replace (g' := g') (w' := w.setRow b (splice arr (o + xs.length * sz) vs)) (new := .tok sz (fr.set k (xs.length + ys.length))) R ht (fun b1 => b1 = b) rfl rfl rfl (by simp)
    (fun b1 hb1 hne => ⟨setRow_other w _ _ _ hne, rfl, fun o1 h => h.elim id fun h => absurd h.1 hne⟩)
    (fun b1 hb1 => ⟨.inr ⟨k, by rw [hb1]; exact h4⟩, rfl, fun o1 h => ⟨.inl h, by subst hb1; exact hcell o1 h⟩⟩)
    (fun b1 o1 _ h => .inl h) (fun _ _ => rfl) (fun j k' hj => G.setTv_ne g _ (by simp [hj])) (fun b1 o1 h => by
      rw [setRow_size]
      rcases h with h | h
      · exact R.nb b1 o1 h
      · rw [h.1]; exact hblt)
    (fun ver' sz' len' hs => by simp [shapeOf, ht, Ob.shape] at hs) (fun es h => by cases h)
    (fun k' n' h => by
      by_cases e : k' = k
      · subst e
        rw [frOf_of ht hn] at h
        injection h with h
        subst h
        refine ⟨_, fr_set_same ht hn, by omega, fun e => ?_⟩
        have : ys.length = 0 := by omega
        show (g.setTv t k' _).tv t k' = _
        rw [G.setTv_same, hu, this]
        rfl
      · obtain ⟨sz1, fr1, k1, k2⟩ := frOf_some h
        rw [ht] at k1
        injection k1 with k1
        injection k1 with k1 k1'
        subst k1 k1'
        exact ⟨n', frOf_of (get_set_same ht) (by rw [List.getElem?_set_ne (Ne.symm e)]; exact k2), Nat.le_refl _, fun _ => G.setTv_ne g _ (by simp [e])⟩)
    (fun _ _ h => by injection h with h _; exact ⟨_, by rw [h]⟩)
    (fun H => tok_others R ht (fun k' e => G.setTv_ne g _ (by simp [e]))
      (fun b1 k' hb1 how hk' => ⟨setRow_other w _ _ _ (fun e => by subst e; rw [h4] at how; injection how with _ how; exact hk' how.symm), rfl, fun o1 h => h.elim id fun h => by
        exfalso
        rw [h.1, h4] at how
        injection how with _ how
        exact hk' how.symm⟩)
      (fun n' hn' => by
        rw [List.getElem?_set] at hn'
        simp [lt_of_some hn] at hn'
        subst hn'
        exact .inr ⟨b, o, c, _, ty, G.setTv_same _ _ _ _, by omega, hroom, h4, setRow_heap w _ _ _ _ _ h5, by rw [splice_size hfit]; exact h6, fun o1 h => by
          rcases h with h | h
          · have := h7 o1 h
            rw [Nat.add_mul]
            omega
          · exact h.2.2⟩))
  obtain ⟨HE, HR⟩ := HR
  refine ⟨arr, ty, g', h5, hfit, HE, HR, ?_⟩
  simp only [crel]
  have hl : lenAll sz (xs ++ ys) := lenAll_of fun e he => by
    rcases List.mem_append.1 he with he | he
    · exact lenAll_mem hsx e he
    · exact lenAll_mem hy.2.1 e he
  refine ⟨?_, xs.length + ys.length, fr_set_same ht hn, by simp, fun _ => (G.setTv_same _ _ _ _).symm, sz, tokSz_of (get_set_same ht), hl⟩
  have := rep_sl (w := w.setRow b (splice arr (o + xs.length * sz) vs)) (N := g'.N) (b := b) (o := o) (c := c) hl (by simpa using hroom) (repRows_of fun i e hi => ?_)
  · simpa using this
  · rw [List.getElem?_append] at hi
    by_cases ci : i < xs.length
    · rw [if_pos ci] at hi
      simp only [rep] at hx
      obtain ⟨a1, c1, sz1, e1, e2, e3, e4⟩ := hx
      rcases e4 with e4 | ⟨b1, o1, e4, e5⟩
      · rw [e4] at ci; simp at ci
      · injection e1 with e1 _ e1c
        rw [e4] at e1
        injection e1 with e1
        injection e1 with e1a e1b
        subst e1a e1b
        have hszz : sz1 = sz := by rw [← lenAll_get e3 hi, lenAll_get hsx hi]
        subst hszz
        exact repRow_mono HE.keeps _ _ _ (repRows_get e5 hi)
    · rw [if_neg ci] at hi
      refine repRow_of fun j x hj => ?_
      obtain ⟨u, k1, k2, _⟩ := hy.2.2 _ e hi j x hj
      have hlt := inside (lt_of_some hi) (by have := lt_of_some hj; have := lenAll_get hy.2.1 hi; omega : j < sz)
      have e1 : o + i * sz + j = o + xs.length * sz + ((i - xs.length) * sz + j) := by
        rw [Nat.sub_mul]
        have : xs.length * sz ≤ i * sz := Nat.mul_le_mul_right _ (Nat.le_of_not_lt ci)
        omega
      refine ⟨u, .inr ⟨rfl, by omega, by rw [Nat.add_mul]; omega⟩, ?_, rep_mono HE.keeps x u k2⟩
      rw [cell_setRow_at h5, splice_get hfit, if_neg (by omega), if_pos (by rw [hy.1]; omega), e1, Nat.add_sub_cancel_left]
      exact k1

/-- A draw turns nothing. -/
theorem drawn (R : Rel g w σ) (m : Nat) : Ext g w σ g (w.drewN m) σ ∧ Rel g (w.drewN m) σ := by
  have H : Ext g w σ g (w.drewN m) σ := {
    os := rfl
    tape := rfl
    output := rfl
    size := Nat.le_refl _
    keeps := fun _ _ h => ⟨h, rfl⟩
    len := Nat.le_refl _
    shape := fun id ver sz len h => .inl ⟨h, rfl, fun _ arr t ha => ⟨arr, ha, rfl⟩⟩
    map := fun id es h => ⟨rfl, es, h⟩
    tok := fun t k n h => ⟨n, h, Nat.le_refl _, fun _ => rfl⟩
    tsz := fun _ _ h => h
    ow := fun _ _ => rfl
    new := fun _ _ h _ _ => h
    frame := fun _ _ _ => rfl }
  exact ⟨H, ⟨R.nb, fun id o h => orel_keep H rfl (fun _ => rfl) (fun _ _ _ => ⟨rfl, rfl, fun _ h => h⟩) (R.ob id o h)⟩⟩

/-- It grows: a new block. -/
theorem tok_grow (R : Rel g w σ) {t k sz c : Nat} {e : TypeId} {fr : List Nat} {xs ys : List (List Fz)} {us vs : List Value} {arr : Array Value} (ht : σ[t]? = some (.tok sz fr)) (hn : fr[k]? = some xs.length)
    (hx : Lay w g.N sz xs us) (hy : Lay w g.N sz ys vs) (h0 : 0 < xs.length + ys.length) (hc : xs.length + ys.length ≤ c) (harr : ∃ rest, arr.toList = us ++ vs ++ rest) (hsz : arr.size = c * sz) (hgrow : 0 < ys.length) :
    ∃ g', Ext g w σ g' (w.alloc (.cells arr e)) (σ.set t (.tok sz (fr.set k (xs.length + ys.length)))) ∧
      Rel g' (w.alloc (.cells arr e)) (σ.set t (.tok sz (fr.set k (xs.length + ys.length)))) ∧
      crel g' (w.alloc (.cells arr e)) (σ.set t (.tok sz (fr.set k (xs.length + ys.length)))) (.ap t k (xs ++ ys)) (.slice (some ⟨w.heap.size, 0, none⟩) (xs.length + ys.length) c) := by
  obtain ⟨rest, harr⟩ := harr
  have hxy := hx.append hy
  have hat := heap_alloc_at w (.cells arr e)
  let g' : G := { g.setTv t k (.slice (some ⟨w.heap.size, 0, none⟩) (xs.length + ys.length) c) with ow := put1 g.ow w.heap.size (.tk t k), N := fun b1 o1 => g.N b1 o1 ∨ (b1 = w.heap.size ∧ o1 < (xs.length + ys.length) * sz) }
  have how : ∀ b, b < w.heap.size → g'.ow b = g.ow b := fun b hb => put1_ne g.ow (k := w.heap.size) (i := b) _ (by omega)
  have hst : ∀ b, b < w.heap.size → Stands g w g' (w.alloc (.cells arr e)) b := fun b hb => ⟨heap_alloc_old w _ hb, how b hb, fun o h => h.elim id fun h => by omega⟩
  have HR := replace (g' := g') (w' := w.alloc (.cells arr e)) (new := .tok sz (fr.set k (xs.length + ys.length))) R ht (fun _ => False) rfl rfl rfl (by rw [size_alloc]; omega)
    (fun b hb _ => hst b hb) (fun b hb => hb.elim) (fun b1 o1 _ h => .inl h) (fun _ _ => rfl) (fun j k' hj => G.setTv_ne g _ (by simp [hj]))
    (fun b1 o1 h => by
      rw [size_alloc]
      rcases h with h | h
      · have := R.nb b1 o1 h; omega
      · omega)
    (fun ver' sz' len' hs => by simp [shapeOf, ht, Ob.shape] at hs) (fun es h => by cases h)
    (fun k' n' h => by
      by_cases e : k' = k
      · subst e
        rw [frOf_of ht hn] at h
        injection h with h
        subst h
        exact ⟨_, fr_set_same ht hn, by omega, fun e => by omega⟩
      · obtain ⟨sz1, fr1, k1, k2⟩ := frOf_some h
        rw [ht] at k1
        injection k1 with k1
        injection k1 with k1 k1'
        subst k1 k1'
        exact ⟨n', frOf_of (get_set_same ht) (by rw [List.getElem?_set_ne (Ne.symm e)]; exact k2), Nat.le_refl _, fun _ => G.setTv_ne g _ (by simp [e])⟩)
    (fun _ _ h => by injection h with h _; exact ⟨_, by rw [h]⟩)
    (fun H => tok_others R ht (fun k' e => G.setTv_ne g _ (by simp [e])) (fun b1 k' hb1 _ _ => hst b1 hb1)
      (fun n' hn' => by
        rw [List.getElem?_set] at hn'
        simp [lt_of_some hn] at hn'
        subst hn'
        refine .inr ⟨w.heap.size, 0, c, arr, e, G.setTv_same _ _ _ _, by omega, hc, put1_same _ _ _, hat, by rw [hsz]; omega, fun o1 h => ?_⟩
        rcases h with h | h
        · exact absurd (R.nb _ _ h) (Nat.lt_irrefl _)
        · have := h.2; omega))
  obtain ⟨HE, HR⟩ := HR
  refine ⟨g', HE, HR, ?_⟩
  simp only [crel]
  refine ⟨?_, xs.length + ys.length, fr_set_same ht hn, by simp, fun _ => (G.setTv_same _ _ _ _).symm, sz, tokSz_of (get_set_same ht), hxy.2.1⟩
  have := rep_sl (w := w.alloc (.cells arr e)) (N := g'.N) (b := w.heap.size) (o := 0) (c := c) hxy.2.1 (by simpa using hc) (rows_of_lay hxy HE.keeps fun j v hj => ?_)
  · simpa using this
  · have hlt := lt_of_some hj
    rw [hxy.1, List.length_append] at hlt
    refine ⟨.inr ⟨rfl, by omega⟩, ?_⟩
    rw [Nat.zero_add, cell_at hat, ← Array.getElem?_toList, harr, List.getElem?_append_left (lt_of_some hj)]
    exact hj

/-- A row of the store that grows: the same block, or a new one. -/
theorem row_room (R : Rel g w σ) {id ver sz n c : Nat} {es ys : List (List C)} {vs : List Value} {a : Option Addr} (hid : σ[id]? = some (.cells ver sz es)) (hes : es ≠ []) (hu : ownRel w (g.ρ id) sz es.length 0 n (.slice a n c))
    (hvl : vs.length = ys.length * sz) (hy : rowRel g w σ vs.toArray sz ys) (hroom : n + ys.length ≤ c) (h0 : 0 < n + ys.length) :
    ∃ arr ty, a = some ⟨g.ρ id, 0, none⟩ ∧ w.heap[g.ρ id]? = some (.cells arr ty (0, 0)) ∧ n * sz + vs.length ≤ arr.size ∧
      Ext g w σ g (w.setRow (g.ρ id) (splice arr (n * sz) vs)) (σ.set id (.cells (ver + 1) sz (es.take n ++ ys))) ∧
      Rel g (w.setRow (g.ρ id) (splice arr (n * sz) vs)) (σ.set id (.cells (ver + 1) sz (es.take n ++ ys))) ∧
      crel g (w.setRow (g.ρ id) (splice arr (n * sz) vs)) (σ.set id (.cells (ver + 1) sz (es.take n ++ ys))) (.own id (ver + 1) 0 (n + ys.length)) (.slice a (n + ys.length) c) := by
  obtain ⟨a', c', e1, e2, e3, e4⟩ := hu
  injection e1 with e1 _ e1c
  subst e1 e1c
  have hlen0 : es.length ≠ 0 := fun h => hes (List.eq_nil_of_length_eq_zero h)
  obtain ⟨f1, f2, arr, ty, f3, f4⟩ := e4 hlen0
  obtain ⟨how, hN, arr1, ty1, hh, hsz, hrow⟩ := R.ob id _ hid hes
  rw [hh] at f3
  injection f3 with f3
  injection f3 with f3 f3t
  subst f3 f3t
  have hm : (n + ys.length) * sz ≤ c * sz := Nat.mul_le_mul_right _ hroom
  have hfit : n * sz + vs.length ≤ arr1.size := by rw [hvl]; rw [Nat.add_mul] at hm; rw [Nat.zero_add] at f4; omega
  have hglt : g.ρ id < w.heap.size := (Array.getElem?_eq_some_iff.1 hh).1
  have HR := replace (g' := g) (w' := w.setRow (g.ρ id) (splice arr1 (n * sz) vs)) (new := .cells (ver + 1) sz (es.take n ++ ys)) R hid (fun b => b = g.ρ id) rfl rfl rfl (by simp)
    (fun b hb ht => ⟨setRow_other w _ _ _ ht, rfl, fun _ h => h⟩)
    (fun b hb => ⟨.inl (by rw [hb]; exact how), rfl, fun o h => absurd (by rw [hb] at h; exact h) (hN o)⟩) (fun _ _ _ h => h) (fun _ _ => rfl) (fun _ _ _ => rfl) (fun b o h => by simpa using R.nb b o h)
    (fun ver' sz' len' hs => by
      rw [shapeOf_of hid] at hs
      injection hs with hs
      injection hs with hs1 hs2
      injection hs2 with hs2 hs3
      exact .inr ⟨ver + 1, _, by rw [shapeOf_of (get_set_same hid), hs2], by omega⟩)
    (fun es' h => by cases h) (fun k n h => by simp [frOf, hid, Ob.fr] at h)
    (fun _ _ h => by cases h) (fun H hne' => by
      refine ⟨how, hN, _, ty1, setRow_heap w _ _ _ _ _ hh, ?_, fun i x hx => ?_⟩
      · rw [splice_size hfit, List.length_append, List.length_take, Nat.min_eq_left (by omega)]
        rw [Nat.zero_add] at f4
        omega
      · rw [List.getElem?_append] at hx
        have hl : (es.take n).length = n := by rw [List.length_take]; omega
        rw [hl] at hx
        by_cases ci : i < n
        · rw [if_pos ci, List.getElem?_take, if_pos ci] at hx
          refine ⟨(hrow i x hx).1, fun j c hc => ?_⟩
          obtain ⟨u, k1, k2, k3⟩ := (hrow i x hx).2 j c hc
          have hj : j < sz := by have := lt_of_some hc; have := (hrow i x hx).1; omega
          exact ⟨u, by rw [splice_get hfit, if_pos (inside ci hj)]; exact k1, H.crel c u k2, k3⟩
        · rw [if_neg ci] at hx
          refine ⟨(hy _ x hx).1, fun j c hc => ?_⟩
          obtain ⟨u, k1, k2, k3⟩ := (hy _ x hx).2 j c hc
          have hj : j < sz := by have := lt_of_some hc; have := (hy _ x hx).1; omega
          have hlt := inside (lt_of_some hx) hj
          have e1 : i * sz + j = n * sz + ((i - n) * sz + j) := by
            rw [Nat.sub_mul]
            have : n * sz ≤ i * sz := Nat.mul_le_mul_right _ (Nat.le_of_not_lt ci)
            omega
          refine ⟨u, ?_, H.crel c u k2, k3⟩
          rw [splice_get hfit, if_neg (by omega), if_pos (by omega), e1, Nat.add_sub_cancel_left]
          simpa using k1)
  obtain ⟨HE, HR⟩ := HR
  refine ⟨arr1, ty1, by simpa using f2 (by omega), hh, hfit, HE, HR, ?_⟩
  simp only [crel]
  refine ⟨ver + 1, sz, _, shapeOf_of (get_set_same hid), Nat.le_refl _, fun _ => ⟨a, c, rfl, hroom, fun h => ?_, fun _ => ⟨?_, f2, splice arr1 (n * sz) vs, ty1, setRow_heap w _ _ _ _ _ hh, ?_⟩⟩, _, _, rfl⟩
  · rw [List.length_append, List.length_take, Nat.min_eq_left (by omega)] at h
    omega
  · rw [List.length_append, List.length_take, Nat.min_eq_left (by omega)]
    omega
  · rw [splice_size hfit]; exact f4

theorem row_grow (R : Rel g w σ) {id ver sz n c : Nat} {e : TypeId} {es ys : List (List C)} {us vs : List Value} {arr : Array Value} (hid : σ[id]? = some (.cells ver sz es)) (hn : n ≤ es.length)
    (hul : us.length = n * sz) (hx : rowRel g w σ us.toArray sz (es.take n)) (hvl : vs.length = ys.length * sz) (hy : rowRel g w σ vs.toArray sz ys) (hc : n + ys.length ≤ c) (h0 : 0 < n + ys.length)
    (harr : ∃ rest, arr.toList = us ++ vs ++ rest) (hsz : arr.size = c * sz) :
    ∃ g', Ext g w σ g' (w.alloc (.cells arr e)) (σ.set id (.cells (ver + 1) sz (es.take n ++ ys))) ∧
      Rel g' (w.alloc (.cells arr e)) (σ.set id (.cells (ver + 1) sz (es.take n ++ ys))) ∧
      crel g' (w.alloc (.cells arr e)) (σ.set id (.cells (ver + 1) sz (es.take n ++ ys))) (.own id (ver + 1) 0 (n + ys.length)) (.slice (some ⟨w.heap.size, 0, none⟩) (n + ys.length) c) := by
  obtain ⟨rest, harr⟩ := harr
  have hat := heap_alloc_at w (.cells arr e)
  have hl : (es.take n).length = n := by rw [List.length_take]; omega
  let g' : G := g.own id w.heap.size
  have how : ∀ b, b < w.heap.size → g'.ow b = g.ow b := fun b hb => put1_ne g.ow (k := w.heap.size) (i := b) _ (by omega)
  have hst : ∀ b, b < w.heap.size → Stands g w g' (w.alloc (.cells arr e)) b := fun b hb => ⟨heap_alloc_old w _ hb, how b hb, fun o h => h⟩
  have hget : ∀ q u, (us ++ vs)[q]? = some u → arr[q]? = some u := fun q u h => by
    rw [← Array.getElem?_toList, harr, List.getElem?_append_left (lt_of_some h)]
    exact h
  have HR := replace (g' := g') (w' := w.alloc (.cells arr e)) (new := .cells (ver + 1) sz (es.take n ++ ys)) R hid (fun _ => False) rfl rfl rfl (by rw [size_alloc]; omega)
    (fun b hb _ => hst b hb) (fun b hb => hb.elim) (fun b1 o1 _ h => h) (fun j hj => put1_ne g.ρ (k := id) (i := j) _ hj) (fun _ _ _ => rfl)
    (fun b1 o1 h => by rw [size_alloc]; have := R.nb b1 o1 h; omega)
    (fun ver' sz' len' hs => by
      rw [shapeOf_of hid] at hs
      injection hs with hs
      injection hs with hs1 hs2
      injection hs2 with hs2 hs3
      exact .inr ⟨ver + 1, _, by rw [shapeOf_of (get_set_same hid), hs2], by omega⟩)
    (fun es' h => by cases h) (fun k n h => by simp [frOf, hid, Ob.fr] at h)
    (fun _ _ h => by cases h) (fun H hne' => by
      refine ⟨by simp [g', G.own], fun o h => absurd (R.nb _ _ (by simpa [g', G.own] using h)) (Nat.lt_irrefl _), arr, e, by simpa [g', G.own] using hat, ?_, fun i x hx' => ?_⟩
      · rw [hsz, List.length_append, hl]
        exact Nat.mul_le_mul_right _ hc
      · rw [List.getElem?_append, hl] at hx'
        by_cases ci : i < n
        · rw [if_pos ci] at hx'
          refine ⟨(hx i x hx').1, fun j c hc => ?_⟩
          obtain ⟨u, k1, k2, k3⟩ := (hx i x hx').2 j c hc
          refine ⟨u, hget _ u ?_, H.crel c u k2, k3⟩
          have k1' : us[i * sz + j]? = some u := by simpa using k1
          rw [List.getElem?_append_left (lt_of_some k1')]
          exact k1'
        · rw [if_neg ci] at hx'
          refine ⟨(hy _ x hx').1, fun j c hc => ?_⟩
          obtain ⟨u, k1, k2, k3⟩ := (hy _ x hx').2 j c hc
          refine ⟨u, hget _ u ?_, H.crel c u k2, k3⟩
          have e1 : i * sz + j = us.length + ((i - n) * sz + j) := by
            rw [hul, Nat.sub_mul]
            have : n * sz ≤ i * sz := Nat.mul_le_mul_right _ (Nat.le_of_not_lt ci)
            omega
          rw [e1, List.getElem?_append_right (by omega), Nat.add_sub_cancel_left]
          simpa using k1)
  obtain ⟨HE, HR⟩ := HR
  refine ⟨g', HE, HR, ?_⟩
  simp only [crel]
  refine ⟨ver + 1, sz, _, shapeOf_of (get_set_same hid), Nat.le_refl _, fun _ => ⟨_, c, rfl, hc, fun h => ?_, fun _ => ⟨?_, fun _ => by simp [g', G.own], arr, e, by simpa [g', G.own] using hat, by rw [hsz, Nat.zero_add]; exact Nat.le_refl _⟩⟩, _, _, rfl⟩
  · rw [List.length_append, hl] at h
    omega
  · rw [List.length_append, hl]
    omega

/-- A map's entries are turned. -/
theorem map_set (R : Rel g w σ) {id clock clock' : Nat} {es es' : List (Int × V)} {ents ents' : Array MapEntry} (hid : σ[id]? = some (.mp es)) (hh : w.heap[g.ρ id]? = some (.map ents clock))
    (hm : ∀ {g' : G} {w' : World} {σ' : Store}, Ext g w σ g' w' σ' → mrelP g' w' σ' es' ents'.toList clock') :
    Ext g w σ g { w with heap := w.heap.setIfInBounds (g.ρ id) (.map ents' clock') } (σ.set id (.mp es')) ∧ Rel g { w with heap := w.heap.setIfInBounds (g.ρ id) (.map ents' clock') } (σ.set id (.mp es')) := by
  obtain ⟨how, hN, _, _, _, _⟩ := R.ob id _ hid
  have hglt : g.ρ id < w.heap.size := (Array.getElem?_eq_some_iff.1 hh).1
  refine replace (g' := g) R hid (fun b => b = g.ρ id) rfl rfl rfl (by simp) (fun b hb ht => ⟨?_, rfl, fun _ h => h⟩)
    (fun b hb => ⟨.inl (by rw [hb]; exact how), rfl, fun o h => absurd (by rw [hb] at h; exact h) (hN o)⟩) (fun _ _ _ h => h) (fun _ _ => rfl) (fun _ _ _ => rfl) (fun b o h => by simpa using R.nb b o h)
    (fun ver' sz' len' hs => by simp [shapeOf, hid, Ob.shape] at hs) (fun es0 h => ⟨rfl, es', rfl⟩) (fun k n h => by simp [frOf, hid, Ob.fr] at h)
    (fun _ _ h => by cases h) (fun H => ⟨how, hN, ents', clock', ?_, hm H⟩)
  · simp only [Array.getElem?_setIfInBounds]
    rw [if_neg (Ne.symm ht)]
  · simp only [Array.getElem?_setIfInBounds]
    simp [hglt]
end
end Go.A

/- Operands, frames; operations that leave memory alone. -/
namespace Go.A

def eqScal : Value → Value → Bool
  | .bool a, .bool b => a == b
  | .int k a, .int k' b => decide (k = k') && decide (a = b)
  | .string a, .string b => decide (a = b)
  | .pointer none, .pointer none => true
  | .map none, .map none => true
  | .nilFunc, .nilFunc => true
  | _, _ => false
theorem eqScal_sound {u v : Value} (h : eqScal u v = true) : u = v ∧ scal v = true := by
  unfold eqScal at h
  split at h <;> simp_all [scal]

/-- A constant cell. -/
def okCell : Value → C → Bool
  | .slice none 0 0, .f (.sl []) => true
  | v, .f (.lit v') => eqScal v v'
  | _, _ => false
def okCells : List Value → List C → Bool
  | [], [] => true
  | v :: vs, c :: cs => okCell v c && okCells vs cs
  | _, _ => false
def okConst : Value → V → Bool
  | .agg us, .agg cs => okCells us.toList cs
  | v, .one c => okCell v c
  | _, _ => false

section
variable {g : G} {w : World} {σ : Store}
theorem okCell_sound {v : Value} {c : C} (h : okCell v c = true) : crel g w σ c v ∧ v.oneCell' = true := by
  unfold okCell at h
  split at h
  · refine ⟨?_, rfl⟩
    rw [crel, rep]
    exact ⟨none, 0, 0, rfl, Nat.le_refl _, by simp only [lenAll], .inl rfl⟩
  · obtain ⟨e, h2⟩ := eqScal_sound h
    subst e
    refine ⟨by rw [crel, rep]; exact ⟨rfl, h2⟩, ?_⟩
    cases v <;> simp_all [scal, Value.oneCell']
  · cases h
theorem okCells_sound : ∀ {vs : List Value} {cs : List C}, okCells vs cs = true → crels g w σ cs vs ∧ ∀ v ∈ vs, v.oneCell' = true
  | [], [], _ => by simp [crels]
  | v :: vs, c :: cs, h => by
    simp only [okCells, Bool.and_eq_true] at h
    obtain ⟨h1, h2⟩ := okCell_sound (g := g) (w := w) (σ := σ) h.1
    obtain ⟨h3, h4⟩ := okCells_sound h.2
    refine ⟨by simp only [crels]; exact ⟨v, vs, rfl, h1, h3⟩, fun u hu => ?_⟩
    rcases List.mem_cons.1 hu with rfl | hu
    · exact h2
    · exact h4 u hu
  | [], _ :: _, h => by simp [okCells] at h
  | _ :: _, [], h => by simp [okCells] at h
theorem okConst_sound {v : Value} {x : V} (h : okConst v x = true) : vrel g w σ x v := by
  unfold okConst at h
  split at h
  · rename_i us cs
    simp only [vrel]
    exact ⟨us, rfl, (okCells_sound h).1⟩
  · simp only [vrel]
    exact (okCell_sound h).1
  · cases h
end

/-- The frame's tables: the slots' temporaries; those of the region's results, the last one first. -/
def okX (κ : List Tmp) (loc : List (Option Tmp)) : Operand → X → Bool
  | .tmp t, .s i => κ[i]? == some t
  | .tmp t, .l d => loc[d]? == some (some t) && (loc.take d).all (· != some t)
  | .const v, .c x => okConst v x
  | .func f, .c (.one (.fn f' [] [])) => f == f'
  | _, _ => false

structure Fr (κ : List Tmp) (loc : List (Option Tmp)) (nt : Nat) (g : G) (w : World) (r : R) (a : Act) : Prop where
  size : a.tmps.size = nt
  len : r.env.length = κ.length
  env : ∀ (i : Nat) (t : Tmp), κ[i]? = some t → vrel g w r.st (r.env.getD i vun) (a.tmps.getD t undef)
  lc : ∀ (d : Nat) (t : Tmp), loc[d]? = some (some t) → (loc.take d).all (· != some t) = true → vrel g w r.st (r.rs.getD d vun) (a.tmps.getD t undef)
  lk : ∀ (d : Nat) (t : Tmp), loc[d]? = some (some t) → t ∉ κ
  nd : κ.Nodup
  bd : ∀ t ∈ κ, t < nt
  df : a.defers = []

section
variable {κ : List Tmp} {loc : List (Option Tmp)} {nt : Nat} {g : G} {w : World} {r : R} {a : Act}

theorem Fr.get (F : Fr κ loc nt g w r a) {x : Operand} {y : X} (h : okX κ loc x y = true) : vrel g w r.st (r.get y) (a.eval x) := by
  unfold okX at h
  split at h
  · exact F.env _ _ (by simpa using h)
  · simp only [Bool.and_eq_true, beq_iff_eq] at h
    exact F.lc _ _ h.1 h.2
  · exact okConst_sound h
  · rename_i f f'
    have e : f = f' := by simpa using h
    subst e
    simp only [R.get, Act.eval, vrel, crel]
    exact ⟨_, _, rfl, by simp [crels], by simp [crels]⟩
  · cases h

theorem Fr.ext {g' : G} {w' : World} {r' : R} (F : Fr κ loc nt g w r a) (H : Ext g w r.st g' w' r'.st) (he : r'.env = r.env) (hr : r'.rs = r.rs) : Fr κ loc nt g' w' r' a :=
  ⟨F.size, by rw [he]; exact F.len, fun i t h => by rw [he]; exact H.vrel _ _ (F.env i t h), fun d t h h' => by rw [hr]; exact H.vrel _ _ (F.lc d t h h'), F.lk, F.nd, F.bd, F.df⟩

/-- Where a result goes. -/
def okD (κ : List Tmp) (nt : Nat) : Option Tmp → D → Bool
  | none, .no => true
  | some t, .loc => !κ.contains t && decide (t < nt)
  | some t, .slot i => κ[i]? == some t
  | _, _ => false
def locOf : Option Tmp → D → Option Tmp
  | some t, .loc => some t
  | _, _ => none

theorem getD_put {ts : Array Value} {t t' : Nat} {u : Value} : (ts.setIfInBounds t u).getD t' undef = if t = t' ∧ t < ts.size then u else ts.getD t' undef := by
  simp only [Array.getD_eq_getD_getElem?, Array.getElem?_setIfInBounds]
  by_cases h : t = t'
  · subst h
    by_cases h2 : t < ts.size <;> simp [h2]
  · simp [h]
theorem list_getD_cons {α : Type} (x : α) (l : List α) (d : Nat) (z : α) : (x :: l).getD (d + 1) z = l.getD d z := by simp

theorem Fr.put (F : Fr κ loc nt g w r a) {t : Option Tmp} {d : D} (h : okD κ nt t d = true) {v : V} {u : Value} (hv : d ≠ .no → vrel g w r.st v u) : Fr κ (locOf t d :: loc) nt g w (r.put d v) (a.put t u) := by
  unfold okD at h
  split at h
  · -- nothing
    refine ⟨F.size, F.len, F.env, fun d' t' h1 h2 => ?_, fun d' t' h1 => ?_, F.nd, F.bd, F.df⟩
    · cases d' with
      | zero => simp [locOf] at h1
      | succ d' =>
        simp only [R.put, list_getD_cons]
        exact F.lc d' t' (by simpa using h1) (by simpa [List.take_succ_cons, locOf] using h2)
    · cases d' with
      | zero => simp [locOf] at h1
      | succ d' => exact F.lk d' t' (by simpa using h1)
  · -- a result of the region's own
    rename_i t
    simp only [Bool.and_eq_true, Bool.not_eq_true', decide_eq_true_eq] at h
    have hk : t ∉ κ := by simpa using h.1
    have ht : t < a.tmps.size := by rw [F.size]; exact h.2
    refine ⟨by simp [Act.put, F.size], F.len, fun i t' h1 => ?_, fun d' t' h1 h2 => ?_, fun d' t' h1 => ?_, F.nd, F.bd, F.df⟩
    · have hne : t ≠ t' := fun e => hk (by rw [e]; exact List.mem_of_getElem? h1)
      simp only [Act.put, getD_put, hne, false_and, if_false]
      exact F.env i t' h1
    · cases d' with
      | zero =>
        simp [locOf] at h1
        subst h1
        simp only [Act.put, getD_put, ht, and_self, if_true]
        exact hv (by simp)
      | succ d' =>
        have hne : t ≠ t' := fun e => by
          subst e
          simp [List.take_succ_cons, locOf] at h2
        simp only [Act.put, getD_put, hne, false_and, if_false, R.put, list_getD_cons]
        refine F.lc d' t' (by simpa using h1) ?_
        rw [List.take_succ_cons, List.all_cons, Bool.and_eq_true] at h2
        exact h2.2
    · cases d' with
      | zero => simp [locOf] at h1; subst h1; exact hk
      | succ d' => exact F.lk d' t' (by simpa using h1)
  · -- a slot
    rename_i t i
    have hi : κ[i]? = some t := by simpa using h
    have ht : t < a.tmps.size := by rw [F.size]; exact F.bd t (List.mem_of_getElem? hi)
    have hil : i < r.env.length := by rw [F.len]; exact lt_of_some hi
    refine ⟨by simp [Act.put, F.size], by simp [R.put, F.len], fun i' t' h1 => ?_, fun d' t' h1 h2 => ?_, fun d' t' h1 => ?_, F.nd, F.bd, F.df⟩
    · simp only [Act.put, getD_put, R.put, List.getD_eq_getElem?_getD, List.getElem?_set]
      by_cases e : t = t'
      · subst e
        have : i = i' := (List.getElem?_inj (lt_of_some hi) F.nd).1 (hi.trans h1.symm)
        subst this
        simp only [ht, and_self, if_true, hil, Option.getD_some]
        exact hv (by simp)
      · have : i ≠ i' := fun e' => e (by subst e'; rw [hi] at h1; injection h1)
        simp only [e, false_and, if_false, this]
        have := F.env i' t' h1
        rwa [List.getD_eq_getElem?_getD] at this
    · cases d' with
      | zero => simp [locOf] at h1
      | succ d' =>
        have h1' : loc[d']? = some (some t') := by simpa using h1
        have hne : t ≠ t' := fun e => F.lk d' t' h1' (by rw [← e]; exact List.mem_of_getElem? hi)
        simp only [Act.put, getD_put, hne, false_and, if_false, R.put, list_getD_cons]
        refine F.lc d' t' h1' ?_
        rw [List.take_succ_cons, List.all_cons, Bool.and_eq_true] at h2
        exact h2.2
    · cases d' with
      | zero => simp [locOf] at h1
      | succ d' => exact F.lk d' t' (by simpa using h1)
  · cases h
end
end Go.A
