/- Rows of whole numbers that the library's functions change in place: how the relation goes on. -/
import Derived.Test.YtecjccggbbbaaaaGreatExt
import Derived.Sort.Grow
import Derived.Lib.SlicesCompact
set_option linter.unusedVariables false
set_option linter.unusedSimpArgs false
namespace Go.A
open Go.Sort
theorem frzC_lit {c : C} {v : Value} (h : frzC c = some (.lit v)) : c = .f (.lit v) := by
  cases c <;> simp only [frzC] at h <;> first | (injection h with h; injection h) | (injection h with h; rw [h]) | cases h
theorem rows_ints : ∀ {es : List (List C)} {l : List Int}, (frzRows es).bind intRows = some l → es = l.map cellI
  | [], l, h => by simp [frzRows, intRows] at h; subst h; rfl
  | e :: es, l, h => by
    simp only [frzRows] at h
    unfold ocons at h
    split at h
    · rename_i x xs h1 h2
      simp only [Option.bind_some, intRows] at h
      unfold ocons at h
      split at h
      · rename_i y ys k1 k2
        injection h with h
        subst h
        have ih := rows_ints (es := es) (l := ys) (by rw [h2]; exact k2)
        subst ih
        have : e = cellI y := by
          unfold intRow at k1
          split at k1
          · rename_i z
            injection k1 with k1
            subst k1
            cases e with
            | nil => simp [frzRow] at h1
            | cons c cs =>
              simp only [frzRow] at h1
              unfold ocons at h1
              split at h1
              · rename_i a0 bs q1 q2
                injection h1 with h1
                injection h1 with h3 h4
                subst h3 h4
                cases cs with
                | nil => rw [frzC_lit q1]; rfl
                | cons c2 cs =>
                  simp only [frzRow] at q2
                  unfold ocons at q2
                  split at q2
                  · cases q2
                  · cases q2
              · cases h1
          · cases k1
        rw [this]
        rfl
      · cases h
    · simp at h
theorem rowInts_some {ver n : Nat} {o : Ob} {l : List Int} (h : rowInts ver n o = some l) : o = .cells ver 1 (l.map cellI) ∧ l.length = n ∧ n ≤ LIM := by
  cases o with
  | tok _ _ => simp [rowInts] at h
  | mp _ => simp [rowInts] at h
  | cells ver' sz es =>
    simp only [rowInts] at h
    split at h
    · rename_i hc
      obtain ⟨rfl, rfl, h3, h4⟩ := hc
      have := rows_ints h
      subst this
      exact ⟨rfl, by simpa using h3, h4⟩
    · cases h
section
variable {g : G} {w : World} {σ : Store}
theorem row_ints (R : Rel g w σ) {id ver : Nat} {l : List Int} (hid : σ[id]? = some (.cells ver 1 (l.map cellI))) (hl : l ≠ []) {u : Value} (hv : vrel g w σ (.one (.own id ver 0 l.length)) u) :
    ∃ c arr t, u = .slice (some ⟨g.ρ id, 0, none⟩) l.length c ∧ l.length ≤ c ∧ w.heap[g.ρ id]? = some (.cells arr t (0, 0)) ∧ l.length ≤ arr.size ∧ (∀ (j : Nat) x, l[j]? = some x → arr[j]? = some (.int .i64 x)) ∧ g.ow (g.ρ id) = .ob id ∧ ∀ o, ¬ g.N (g.ρ id) o := by
  obtain ⟨a, c, e1, e2, e3, e4⟩ := vrel_own hv hid
  have hne : l.map cellI ≠ [] := by simpa using hl
  obtain ⟨k1, k2, arr, t, k3, k4, k5⟩ := R.ob id _ hid hne
  have hpos : 0 < l.length := List.length_pos_iff.2 hl
  obtain ⟨_, f2, _⟩ := e4 (by simp; omega)
  have ha := f2 (by omega)
  refine ⟨c, arr, t, (by rw [e1, ha]; try simp), e2, k3, by simpa using k4, fun j x hj => ?_, k1, k2⟩
  obtain ⟨_, h2⟩ := k5 j (cellI x) (by simp [hj])
  obtain ⟨v, q1, q2, _⟩ := h2 0 (.f (.lit (.int .i64 x))) (by simp [cellI])
  simp only [crel, rep] at q2
  rw [← q2.1]
  simpa using q1
theorem row_holds (R : Rel g w σ) {l : List Int} {b : Nat} {arr : Array Value} {t : TypeId} (h : w.heap[b]? = some (.cells arr t (0, 0))) (h2 : ∀ (j : Nat) x, l[j]? = some x → arr[j]? = some (.int .i64 x)) : Holds (Value.int .i64) w b 0 l.toArray := fun j hj => by
  have hj' : j < l.length := by simpa using hj
  refine ⟨?_, by simp [World.frozen?, h]⟩
  rw [cell_at h, Nat.zero_add, h2 j l[j] (by simp [hj'])]
  simp [hj']
/-- The world behind: a row's cells were written, blocks were added. -/
theorem heap_put {q : Nat} {b : Nat} {d : Array Int} {os : Array Obj} {arr : Array Value} {t : TypeId} (h : w.heap[b]? = some (.cells arr t (0, 0))) :
    (grow (putRow (Value.int .i64) (Sort.ahead w q) b 0 d) os).heap[b]? = some (.cells (putCells (Value.int .i64) 0 d arr) t (0, 0)) := by
  have hb : b < w.heap.size := (Array.getElem?_eq_some_iff.1 h).1
  simp only [grow, putRow, mapBlock, Sort.ahead]
  rw [Array.getElem?_append_left (by simpa using hb), Array.getElem?_modify, if_pos rfl, h]
  rfl
theorem heap_other {q : Nat} {b j : Nat} {d : Array Int} {os : Array Obj} (hj : j < w.heap.size) (hne : j ≠ b) :
    (grow (putRow (Value.int .i64) (Sort.ahead w q) b 0 d) os).heap[j]? = w.heap[j]? := by
  simp only [grow, putRow, mapBlock, Sort.ahead]
  rw [Array.getElem?_append_left (by simpa using hj), Array.getElem?_modify, if_neg (Ne.symm hne)]
theorem size_putCells (d : Array Int) (arr : Array Value) : (putCells (Value.int .i64) 0 d arr).size = arr.size := by simp [putCells]
theorem putCells_get {d : Array Int} {arr : Array Value} {j : Nat} (hj : j < d.size) (hd : d.size ≤ arr.size) : (putCells (Value.int .i64) 0 d arr)[j]? = some (.int .i64 d[j]) := by
  have h1 : j < arr.size := by omega
  have h2 : j < (putCells (Value.int .i64) 0 d arr).size := by rw [size_putCells]; exact h1
  rw [Array.getElem?_eq_getElem h2]
  simp [putCells, hj]
/-- A row's cells are written. -/
theorem row_set (R : Rel g w σ) {id ver : Nat} {l : List Int} (hid : σ[id]? = some (.cells ver 1 (l.map cellI))) {l' : List Int} (hl' : l'.length = l.length) {arr : Array Value} {t : TypeId}
    (hh : w.heap[g.ρ id]? = some (.cells arr t (0, 0))) (hsz : l.length ≤ arr.size) (how : g.ow (g.ρ id) = .ob id) (hN : ∀ o, ¬ g.N (g.ρ id) o) (q : Nat) (os : Array Obj) :
    Ext g w σ g (grow (putRow (Value.int .i64) (Sort.ahead w q) (g.ρ id) 0 l'.toArray) os) (σ.set id (.cells ver 1 (l'.map cellI))) ∧
    Rel g (grow (putRow (Value.int .i64) (Sort.ahead w q) (g.ρ id) 0 l'.toArray) os) (σ.set id (.cells ver 1 (l'.map cellI))) := by
  refine replace (g' := g) R hid (fun b => b = g.ρ id) rfl rfl rfl (by simp [grow, Sort.ahead]) (fun b hb ht => ⟨heap_other hb ht, rfl, fun _ h => h⟩)
    (fun b hb => ⟨.inl (by rw [hb]; exact how), rfl, fun o h => absurd (by rw [hb] at h; exact h) (hN o)⟩) (fun _ _ _ h => h) (fun _ _ => rfl) (fun _ _ _ => rfl)
    (fun b o h => by have := R.nb b o h; simp [grow, Sort.ahead]; omega) ?_ ?_ ?_ (fun _ _ h => by cases h) ?_
  · intro ver' sz' len' hs
    refine .inl ⟨?_, rfl, fun _ arr0 t0 h0 => ?_⟩
    · rw [shapeOf_of hid] at hs
      injection hs with hs
      rw [shapeOf_of (get_set_same hid), ← hs]
      simp [hl']
    · rw [hh] at h0
      injection h0 with h0
      injection h0 with h0 h0t
      subst h0
      subst h0t
      exact ⟨_, heap_put hh, size_putCells _ _⟩
  · intro es' h; cases h
  · intro k n h; simp [frOf, hid, Ob.fr] at h
  · intro H hne'
    refine ⟨how, hN, _, t, heap_put hh, by rw [size_putCells]; simp [hl']; omega, fun i e he => ?_⟩
    rw [List.getElem?_map, Option.map_eq_some_iff] at he
    obtain ⟨x, hx, rfl⟩ := he
    refine ⟨rfl, fun j c hc => ?_⟩
    have hi : i < l'.length := (List.getElem?_eq_some_iff.1 hx).1
    cases j with
    | succ j => simp [cellI] at hc
    | zero =>
      simp [cellI] at hc
      subst hc
      refine ⟨.int .i64 x, ?_, by simp [crel, rep, scal], rfl⟩
      rw [Nat.mul_one, Nat.add_zero, putCells_get (by simpa using hi) (by simp; omega)]
      have := (List.getElem?_eq_some_iff.1 hx).2
      simp [this]
/-- A row is given up for frozen data. -/
def G.give (g : G) (b : Nat) : G := { g with N := fun b' o => g.N b' o ∨ b' = b }
theorem row_give (R : Rel g w σ) {id ver : Nat} {l : List Int} (hid : σ[id]? = some (.cells ver 1 (l.map cellI))) {d : Array Int} {arr : Array Value} {t : TypeId}
    (hh : w.heap[g.ρ id]? = some (.cells arr t (0, 0))) (how : g.ow (g.ρ id) = .ob id) (hN : ∀ o, ¬ g.N (g.ρ id) o) (q : Nat) (os : Array Obj) :
    Ext g w σ (g.give (g.ρ id)) (grow (putRow (Value.int .i64) (Sort.ahead w q) (g.ρ id) 0 d) os) (σ.set id (.cells (ver + 1) 1 [])) ∧
    Rel (g.give (g.ρ id)) (grow (putRow (Value.int .i64) (Sort.ahead w q) (g.ρ id) 0 d) os) (σ.set id (.cells (ver + 1) 1 [])) := by
  have hb : g.ρ id < w.heap.size := (Array.getElem?_eq_some_iff.1 hh).1
  refine replace (g' := g.give (g.ρ id)) R hid (fun b => b = g.ρ id) rfl rfl rfl (by simp [grow, Sort.ahead]) (fun b hb ht => ⟨heap_other hb ht, rfl, fun o h => h.elim (fun x => x) (fun e => absurd e ht)⟩)
    (fun b hb => ⟨.inl (by rw [hb]; exact how), rfl, fun o h => absurd (by rw [hb] at h; exact h) (hN o)⟩) (fun _ _ _ h => .inl h) (fun _ _ => rfl) (fun _ _ _ => rfl)
    (fun b o h => by
      simp only [grow, Array.size_append, size_putRow, Sort.ahead]
      rcases h with h | h
      · have := R.nb b o h; omega
      · omega) ?_ ?_ ?_ (fun _ _ h => by cases h) ?_
  · intro ver' sz' len' hs
    rw [shapeOf_of hid] at hs
    injection hs with hs
    injection hs with h1 h2
    injection h2 with h2 h3
    subst h1 h2
    exact .inr ⟨ver + 1, 0, by rw [shapeOf_of (get_set_same hid)]; rfl, by omega⟩
  · intro es' h; cases h
  · intro k n h; simp [frOf, hid, Ob.fr] at h
  · intro H hne'
    exact absurd rfl hne'
end
end Go.A
