import Derived.Test.YtecjccggbbbaaaaGreatKD
import Derived.Test.YtecjccggbbbaaaaGreatData
import Derived.Test.YtecjccggbbbaaaaGreatCon
set_option linter.unusedVariables false
set_option linter.unusedSimpArgs false
set_option linter.unusedSectionVars false
namespace AC
open Go Go.A Go.A.Lex
def vSh (s : Int × Int) : V := .agg [.f (ei s.1), .f (ei s.2)]
abbrev SMap := List (Int × (Int × Int))
def putAll : SMap → DMap → SMap
  | S, [] => S
  | S, e :: r => putAll (putM e.1 e.2.shape S) r
theorem copy_all : ∀ (D : DMap) (S : SMap), copyInto 2 (some 2) 4 (encM vDef D) (encM vSh S) = some (encM vSh (putAll S D))
  | [], S => rfl
  | e :: r, S => by
    have hc : ∀ l : List (Int × PDef), encM vDef (e :: l) = (e.1, vDef e.2) :: encM vDef l := fun _ => rfl
    rw [hc, copyInto]
    have h1 : (vDef e.2).cells.length = 4 ∧ C.kns (vDef e.2).cells = true := ⟨rfl, rfl⟩
    rw [if_pos h1]
    have h2 : afld 2 (some 2) (vDef e.2) = some (vSh e.2.shape) := rfl
    rw [h2, Option.bind_some, mput_enc, copy_all r, putAll]
theorem get_putM {α : Type} (k v : Int) (a : α) : ∀ S : List (Int × α), getM v (putM k a S) = if k = v then some a else getM v S
  | [] => rfl
  | e :: r => by
    simp only [putM]
    by_cases h : e.1 = k
    · rw [if_pos h]
      simp only [getM, h]
      by_cases h2 : k = v
      · rw [if_pos h2, if_pos h2]
      · rw [if_neg h2, if_neg h2, if_neg h2]
    · rw [if_neg h]
      simp only [getM]
      by_cases h2 : e.1 = v
      · rw [if_pos h2, if_pos h2, if_neg (by omega)]
      · rw [if_neg h2, if_neg h2, get_putM k v a r]
theorem get_notin {α : Type} {v : Int} : ∀ {S : List (Int × α)}, v ∉ S.map Prod.fst → getM v S = none
  | [], _ => rfl
  | e :: r, h => by
    simp only [List.map_cons, List.mem_cons, not_or] at h
    rw [getM, if_neg (fun h2 => h.1 h2.symm), get_notin h.2]
theorem get_putAll (v : Int) : ∀ (D : DMap) (S : SMap), (D.map Prod.fst).Nodup → getM v (putAll S D) = match getM v D with
    | some d => some d.shape
    | none => getM v S
  | [], S, _ => rfl
  | e :: r, S, h => by
    simp only [List.map_cons, List.nodup_cons] at h
    rw [putAll, get_putAll v r _ h.2, getM, get_putM]
    by_cases h2 : e.1 = v
    · rw [if_pos h2, if_pos h2, get_notin (h2 ▸ h.1)]
    · rw [if_neg h2, if_neg h2]
theorem keys_putM {α : Type} (k : Int) (a : α) : ∀ S : List (Int × α), (putM k a S).map Prod.fst = if k ∈ S.map Prod.fst then S.map Prod.fst else S.map Prod.fst ++ [k]
  | [] => by simp [putM]
  | e :: r => by
    simp only [putM]
    by_cases h : e.1 = k
    · rw [if_pos h]; simp [h]
    · rw [if_neg h, List.map_cons, keys_putM k a r]
      by_cases h2 : k ∈ r.map Prod.fst
      · rw [if_pos h2, if_pos (by rw [List.map_cons]; exact List.mem_cons_of_mem _ h2), List.map_cons]
      · rw [if_neg h2, if_neg (by rw [List.map_cons, List.mem_cons]; rintro (h3 | h3); exact h h3.symm; exact h2 h3)]; rfl
theorem nodup_putM {α : Type} (k : Int) (a : α) {S : List (Int × α)} (h : (S.map Prod.fst).Nodup) : ((putM k a S).map Prod.fst).Nodup := by
  rw [keys_putM]
  split
  · exact h
  · rename_i h2
    rw [List.nodup_append]
    refine ⟨h, by simp, fun x hx y hy => ?_⟩
    rw [List.mem_singleton] at hy
    intro e
    exact h2 (by rw [← hy, ← e]; exact hx)
theorem nodup_params : ∀ (l : List Int) (i : Nat) (D : DMap), (D.map Prod.fst).Nodup → ((putParams i D l).map Prod.fst).Nodup
  | [], _, _, h => h
  | _ :: r, _, _, h => nodup_params r _ _ (nodup_putM _ _ h)
theorem nodup_phis (i : Int) : ∀ (l : List PPhi) (D : DMap), (D.map Prod.fst).Nodup → ((putPhis i D l).1.map Prod.fst).Nodup
  | [], _, h => h
  | p :: r, D, h => by
    unfold putPhis
    split
    · exact h
    · split
      · exact nodup_phis i r _ (nodup_putM _ _ h)
      · exact nodup_putM _ _ h
theorem nodup_ops (i : Int) : ∀ (l : List POp) (k : Nat) (D : DMap), (D.map Prod.fst).Nodup → ((putOps i k D l).1.map Prod.fst).Nodup
  | [], _, _, h => h
  | p :: r, k, D, h => by
    unfold putOps
    split
    · exact nodup_ops i r _ _ h
    · split
      · exact nodup_ops i r _ _ (nodup_putM _ _ h)
      · exact nodup_putM _ _ h
theorem nodup_blocks : ∀ (l : List PBlock) (i : Nat) (D : DMap), (D.map Prod.fst).Nodup → ((putBlocks i D l).1.map Prod.fst).Nodup
  | [], _, _, h => h
  | b :: r, i, D, h => by
    unfold putBlocks
    have h1 := nodup_phis i b.phis D h
    split
    · rename_i e; rw [e] at h1; exact h1
    · rename_i D1 e
      rw [e] at h1
      have h2 := nodup_ops i b.ops 0 D1 h1
      split
      · rename_i e2; rw [e2] at h2; exact h2
      · rename_i e2; rw [e2] at h2; exact nodup_blocks r _ _ h2
theorem nodup_dmap (f : PFunc) : ((dmapS f).1.map Prod.fst).Nodup := nodup_blocks _ _ _ (nodup_params _ _ _ (by simp))
/-- Each value's shape, where a function is right. -/
def shapesS (f : PFunc) : SMap := putAll [] (dmapS f).1
theorem shift_encM {α : Type} (enc : α → V) (n : Nat) (h : ∀ a, (enc a).shift n = enc a) : ∀ D : List (Int × α), List.map (fun e => (e.fst, V.shift n e.snd)) (encM enc D) = encM enc D
  | [] => rfl
  | e :: r => by
    have ih := shift_encM enc n h r
    unfold encM at ih ⊢
    simp only [List.map_cons, h, ih]
theorem shift_def (n : Nat) (D : DMap) : List.map (fun e => (e.fst, V.shift n e.snd)) (encM vDef D) = encM vDef D := shift_encM vDef n (fun _ => rfl) D
theorem shift_sh (n : Nat) (D : SMap) : List.map (fun e => (e.fst, V.shift n e.snd)) (encM vSh D) = encM vSh D := shift_encM vSh n (fun _ => rfl) D
abbrev shSt (f : PFunc) (tree : List Int) : Store := [O0 f, O0 f, .cells 0 8 [[.f (.sl (f.params.map ri)), .f (.lit (.int .i64 f.ret)), .f (.sl (f.blocks.map rb)), .f (.lit (.int .i64 2)), .f (.sl ((succS f).map rl)), .f (.sl ((predsS (succS f)).map rl)), .f (.sl (tree.map ri)), .map 5]],
  .cells 0 1 [[.fn F.check_checker_shape [.ptr 2 0 0 0] []], [.fn F.check_checker_typed [.ptr 2 0 0 0] []], [.fn F.check_checker_defined [.ptr 2 0 0 0] []], [.fn F.check_checker_shapes [.ptr 2 0 0 0] []], [.fn F.check_checker_places [.ptr 2 0 0 0] []]],
  .cells 0 1 [[.ptr 2 0 0 0]], .mp (encM vDef (dmapS f).1), .mp (encM vSh (shapesS f))]
theorem Shapes_ok (f : PFunc) (hf : okF f) (tree : List Int) (hT : TreeIs f tree) (h0 : lookS f 2 tree = 0) :
    call T F.check_Shapes [vFunc f] [] = some (.one (.map 6), shSt f tree) := by
  rw [call_eq (fn := a_check_Shapes) rfl]
  obtain ⟨σ', h, h'⟩ := look_call f hf 2 tree hT
  rw [h' h0, h0] at h
  have hc : copyInto 2 (some 2) 4 (encM vDef (dmapS f).1) [] = some (encM vSh (shapesS f)) := copy_all (dmapS f).1 []
  simp -implicitDefEqProofs only [go_sem] at h
  simp -implicitDefEqProofs only [go_sem, a_check_Shapes, h, exec_spec, specE, specTo, shift_def, hc, vSh, shSt]
end AC

namespace AC
open Go Go.A Go.A.Lex
abbrev PForm := List (Int × Int) × Int
def vFm (x : PForm) : V := fF x.1 x.2
abbrev FMap := List (Int × PForm)
abbrev OMap := List (Int × POp)
abbrev nForm : PForm := ([], 0)
def plusS (a b : PForm) : PForm := if mayFrom 0 a.1 = true ∧ mayFrom 0 b.1 = true then (mergeT pl a.1 b.1, pl a.2 b.2) else nForm
def minusS (a b : PForm) : PForm := if mayFrom 0 a.1 = true ∧ mayFrom 0 b.1 = true then (mergeT mi a.1 b.1, mi a.2 b.2) else nForm
def timesS (a : PForm) (n : Int) : PForm := if mayFrom 0 a.1 = true then (mergeT (ti n) a.1 [], ti n a.2 0) else nForm
def tell (k : Int) (a b : PForm) : Option PForm :=
  if k = 1 then some (plusS a b) else if k = 2 then some (minusS a b) else if k = 3 ∧ b.1.length = 0 then some (timesS a b.2)
  else if k = 3 ∧ a.1.length = 0 then some (timesS b a.2) else if k = 8 ∧ b.1.length = 0 ∧ b.2 < 64 then some (timesS a (IntKind.u64.wrap (1 * 2 ^ min b.2.toNat 64))) else none
def madeS (form : FMap → Int → Option (PForm × FMap)) (ops : OMap) (M : FMap) (v : Int) : Option (Option PForm × FMap) :=
  match getM v ops with
  | none => some (none, M)
  | some o => if o.bits ≠ 64 ∨ o.lanes ≠ 1 then some (none, M) else if o.kind = 0 then some (some ([], o.imm), M) else if o.kind < 1 ∨ 8 < o.kind then some (none, M)
    else match o.args with
      | a :: b :: _ => (form M a).bind fun x => (form x.2 b).bind fun y => if x.1.1.length + y.1.1.length ≤ 4294967296 ∧ 0 ≤ y.1.2 then some (tell o.kind x.1 y.1, y.2) else none
      | _ => none
def keepS (v : Int) : Option PForm → PForm
  | some f => if 16 < f.1.length then ([(v, 1)], 0) else f
  | none => ([(v, 1)], 0)
def formS (ops : OMap) : Nat → FMap → Int → Option (PForm × FMap)
  | 0, _, _ => none
  | n + 1, M, v => match getM v M with
    | some f => some (f, M)
    | none => (madeS (formS ops n) ops M v).map fun r => (keepS v r.1, putM v (keepS v r.1) r.2)
/-- A finder's store: the finder, its operations, its forms. -/
structure Finder (σ : Store) (x m1 m2 : Nat) (ops : OMap) (M : FMap) : Prop where
  hx : σ[x]? = some (.cells 0 2 [[.map m1, .map m2]])
  ho : σ[m1]? = some (.mp (encM vOp ops))
  hf : σ[m2]? = some (.mp (encM vFm M))
  ok : Ok σ
  n1 : m1 ≠ m2
  n2 : x ≠ m2
theorem ltm_fm (n : Nat) (M : FMap) : C.ltm n (encM vFm M) = true := ltm_enc vFm n (fun a => by simp [vFm, fF, V.lt, C.lts, C.lt]) M
theorem obs_lt_set (n m : Nat) (o : Ob) (ho : o.lt n = true) : ∀ σ : Store, Obs.lt n σ = true → Obs.lt n (σ.set m o) = true := by
  intro σ h
  induction σ generalizing m with
  | nil => exact h
  | cons a r ih =>
    simp only [Obs.lt, Bool.and_eq_true] at h
    cases m with
    | zero => simp only [List.set, Obs.lt, ho, h.2, Bool.and_self]
    | succ m => simp only [List.set, Obs.lt, h.1, ih m h.2, Bool.and_self]
theorem Finder.put {σ : Store} {x m1 m2 : Nat} {ops : OMap} {M : FMap} (h : Finder σ x m1 m2 ops M) (M' : FMap) : Finder (σ.set m2 (.mp (encM vFm M'))) x m1 m2 ops M' := by
  have hlt : m2 < σ.length := (List.getElem?_eq_some_iff.1 h.hf).1
  refine ⟨?_, ?_, ?_, ?_, h.n1, h.n2⟩
  · rw [List.getElem?_set_ne (fun e => h.n2 e.symm)]; exact h.hx
  · rw [List.getElem?_set_ne (fun e => h.n1 e.symm)]; exact h.ho
  · simp [hlt]
  · unfold Ok
    rw [List.length_set]
    exact obs_lt_set _ _ _ (by simp only [Ob.lt]; exact ltm_fm _ _) _ h.ok
theorem Finder.app {σ : Store} {x m1 m2 : Nat} {ops : OMap} {M : FMap} (h : Finder σ x m1 m2 ops M) (r : Store) (hr : Obs.lt (σ.length + r.length) r = true) : Finder (σ ++ r) x m1 m2 ops M :=
  ⟨get_low h.hx r, get_low h.ho r, get_low h.hf r, h.ok.app hr, h.n1, h.n2⟩
theorem set_app {σ : Store} {m : Nat} {o0 : Ob} (h : σ[m]? = some o0) (o : Ob) (r : Store) : (σ ++ r).set m o = σ.set m o ++ r := by
  rw [List.set_append_left _ _ (List.getElem?_eq_some_iff.1 h).1]
theorem set_same {σ : Store} {m : Nat} {o : Ob} (h : σ[m]? = some o) : σ.set m o = σ := by
  obtain ⟨hl, rfl⟩ := List.getElem?_eq_some_iff.1 h
  exact List.set_getElem_self hl
theorem mget_op (k : Int) (D : OMap) : mget k (encM vOp D) = (getM k D).map vOp := mget_enc vOp k D
theorem mget_fm (k : Int) (D : FMap) : mget k (encM vFm D) = (getM k D).map vFm := mget_enc vFm k D
def FormC (ops : OMap) (n : Nat) : Prop := ∀ (σ : Store) (x m1 m2 : Nat) (M M' : FMap) (v : Int) (f : PForm), Finder σ x m1 m2 ops M → formS ops n M v = some (f, M') →
  call T F.affine_finder_form [.one (.ptr x 0 0 0), vI v] σ = some (vFm f, σ.set m2 (.mp (encM vFm M')))
theorem get_endL0 {α : Type} {σ : List α} {n : Nat} (h : σ.length = n) (o : α) (r : List α) : (σ ++ o :: r)[n]? = some o := by subst h; simp
theorem get_endL1 {α : Type} {σ : List α} {n : Nat} (h : σ.length = n) (o p : α) (r : List α) : (σ ++ o :: p :: r)[n + 1]? = some p := by subst h; simp
theorem get_endL2 {α : Type} {σ : List α} {n : Nat} (h : σ.length = n) (o p q' : α) (r : List α) : (σ ++ o :: p :: q' :: r)[n + 2]? = some q' := by subst h; simp
theorem get_endL3 {α : Type} {σ : List α} {n : Nat} (h : σ.length = n) (o p q' s : α) (r : List α) : (σ ++ o :: p :: q' :: s :: r)[n + 3]? = some s := by subst h; simp
theorem get_endL4 {α : Type} {σ : List α} {n : Nat} (h : σ.length = n) (o p q' s t : α) (r : List α) : (σ ++ o :: p :: q' :: s :: t :: r)[n + 4]? = some t := by subst h; simp
theorem set_endL0 {α : Type} {σ : List α} {n : Nat} (h : σ.length = n) (x o : α) (r : List α) : (σ ++ o :: r).set n x = σ ++ x :: r := by subst h; simp [List.set_append_right]
theorem set_endL1 {α : Type} {σ : List α} {n : Nat} (h : σ.length = n) (x o p : α) (r : List α) : (σ ++ o :: p :: r).set (n + 1) x = σ ++ o :: x :: r := by subst h; simp [List.set_append_right]
theorem set_endL2 {α : Type} {σ : List α} {n : Nat} (h : σ.length = n) (x o p q' : α) (r : List α) : (σ ++ o :: p :: q' :: r).set (n + 2) x = σ ++ o :: p :: x :: r := by subst h; simp [List.set_append_right]
theorem set_endL3 {α : Type} {σ : List α} {n : Nat} (h : σ.length = n) (x o p q' s : α) (r : List α) : (σ ++ o :: p :: q' :: s :: r).set (n + 3) x = σ ++ o :: p :: q' :: x :: r := by subst h; simp [List.set_append_right]
theorem set_endL4 {α : Type} {σ : List α} {n : Nat} (h : σ.length = n) (x o p q' s t : α) (r : List α) : (σ ++ o :: p :: q' :: s :: t :: r).set (n + 4) x = σ ++ o :: p :: q' :: s :: x :: r := by subst h; simp [List.set_append_right]
theorem take_endL0 {α : Type} {σ : List α} {n : Nat} (h : σ.length = n) (r : List α) : (σ ++ r).take n = σ := by subst h; simp
theorem beqs_ri : ∀ l : List Int, Fz.beqs (l.map ri) (l.map ri) = true
  | [] => rfl
  | x :: r => by
    rw [List.map_cons, Fz.beqs, beqs_ri r]
    simp [ri, ei, Fz.beqR, Fz.beq, Value.beq]
theorem fz_beqs_rfl (a b : Int) (l : List Int) : Fz.beqs ([.lit (.int .i64 a)] :: [.lit (.int .i64 b)] :: l.map ri) ([.lit (.int .i64 a)] :: [.lit (.int .i64 b)] :: l.map ri) = true := beqs_ri (a :: b :: l)
theorem n21 (n : Nat) : n + 2 + 1 = n + 3 := rfl
theorem Plus_callS (a b : PForm) (hl : a.1.length + b.1.length ≤ 4294967296) : call T F.affine_Plus [fF a.1 a.2, fF b.1 b.2] [] = some (fF (plusS a b).1 (plusS a b).2, []) := by
  rw [Plus_call a.1 b.1 a.2 b.2 hl, plusS]
  split <;> rfl
theorem Minus_callS (a b : PForm) (hl : a.1.length + b.1.length ≤ 4294967296) : call T F.affine_Minus [fF a.1 a.2, fF b.1 b.2] [] = some (fF (minusS a b).1 (minusS a b).2, []) := by
  rw [Minus_call a.1 b.1 a.2 b.2 hl, minusS]
  split <;> rfl
theorem Times_callS (a : PForm) (n : Int) (hl : a.1.length ≤ 4294967296) : call T F.affine_Times [fF a.1 a.2, vU64 n] [] = some (fF (timesS a n).1 (timesS a n).2, []) := by
  rw [Times_call a.1 a.2 n hl, timesS]
  split <;> rfl
set_option maxHeartbeats 2000000 in
theorem made_call (ops : OMap) (n : Nat) (hC : FormC ops n) (σ : Store) (x m1 m2 : Nat) (M M' : FMap) (v : Int) (f : Option PForm) (h : Finder σ x m1 m2 ops M) (hm : madeS (formS ops n) ops M v = some (f, M')) :
    call T F.affine_finder_made [.one (.ptr x 0 0 0), vI v] σ = some (.tup [vFm (f.getD nForm), vB f.isSome], σ.set m2 (.mp (encM vFm M'))) := by
  rw [call_eq (fn := a_affine_finder_made) rfl]
  have gx := fun r => get_low h.hx r
  have go := fun r => get_low h.ho r
  have lx := fun j => lt_low h.hx j
  have gx0 := h.hx
  have go0 := h.ho
  have lx0 := lt_low0 h.hx
  have ok := fun k => Ok.up h.ok k
  have ok0 := Ok.at h.ok
  have hs := set_same h.hf
  unfold madeS at hm
  cases e : getM v ops with
  | none =>
    rw [e] at hm
    simp only [Option.some.injEq, Prod.mk.injEq] at hm
    obtain ⟨rfl, rfl⟩ := hm
    have hg := mget_op v ops
    rw [e] at hg
    simp -implicitDefEqProofs only [go_sem] at hg
    simp -implicitDefEqProofs only [go_sem, a_affine_finder_made, gx, go, lx, gx0, go0, lx0, ok, ok0, hs, hg, vFm, fF, rows_nil, Option.getD_none, Option.isSome_none]
  | some o =>
    rw [e] at hm
    have hg := mget_op v ops
    rw [e] at hg
    simp -implicitDefEqProofs only [go_sem] at hg
    by_cases c1 : o.bits = 64
    · by_cases c2 : o.lanes = 1
      · by_cases c3 : o.kind = 0
        · simp only [c1, c2, c3, ne_eq, not_true_eq_false, or_self, if_false, if_true, Option.some.injEq, Prod.mk.injEq] at hm
          obtain ⟨rfl, rfl⟩ := hm
          simp -implicitDefEqProofs only [go_sem, a_affine_finder_made, gx, go, lx, gx0, go0, lx0, ok, ok0, hs, hg, c1, c2, c3, vFm, fF, rows_nil, Option.getD_some, Option.isSome_some]
        · by_cases c4 : o.kind < 1
          · simp only [c1, c2, c3, c4, true_or, ne_eq, not_true_eq_false, or_self, if_false, if_true, Option.some.injEq, Prod.mk.injEq] at hm
            obtain ⟨rfl, rfl⟩ := hm
            simp -implicitDefEqProofs only [go_sem, a_affine_finder_made, gx, go, lx, gx0, go0, lx0, ok, ok0, hs, hg, c1, c2, c3, c4, vFm, fF, rows_nil, Option.getD_none, Option.isSome_none]
          · by_cases c5 : 8 < o.kind
            · simp only [c1, c2, c3, c4, c5, or_true, ne_eq, not_true_eq_false, or_self, if_false, if_true, Option.some.injEq, Prod.mk.injEq] at hm
              obtain ⟨rfl, rfl⟩ := hm
              simp -implicitDefEqProofs only [go_sem, a_affine_finder_made, gx, go, lx, gx0, go0, lx0, ok, ok0, hs, hg, c1, c2, c3, c4, c5, vFm, fF, rows_nil, Option.getD_none, Option.isSome_none]
            · simp only [c1, c2, c3, c4, c5, ne_eq, not_true_eq_false, or_self, if_false] at hm
              obtain ⟨hkind, hbits, hlanes, hdst, args, himm⟩ := o
              simp only at c1 c2 c3 c4 c5 hm hg
              subst c1
              subst c2
              match args, hm, hg with
              | [], hm, _ => simp at hm
              | [_], hm, _ => simp at hm
              | a :: b :: rest, hm, hg =>
              simp only [Option.bind_eq_some_iff] at hm
              obtain ⟨⟨fa, M1⟩, f1, ⟨fb, M2⟩, f2, hm⟩ := hm
              simp only at f2 hm
              split at hm
              case isFalse => simp at hm
              rename_i hcond
              simp only [Option.some.injEq, Prod.mk.injEq] at hm
              obtain ⟨rfl, rfl⟩ := hm
              have r1 := h.app [Ob.cells 0 2 [[.f (.sl []), .f (.lit (.int .u64 0))]], .cells 0 6 [cOp ⟨hkind, 64, 1, hdst, a :: b :: rest, himm⟩]] (by simp -implicitDefEqProofs only [go_sem])
              have g1 := hC _ x m1 m2 _ _ a fa r1 f1
              rw [set_app h.hf] at g1
              have h1 := h.put M1
              have r2 := h1.app [Ob.cells 0 2 [[.f (.sl []), .f (.lit (.int .u64 0))]], .cells 0 6 [cOp ⟨hkind, 64, 1, hdst, a :: b :: rest, himm⟩]] (by simp -implicitDefEqProofs only [go_sem])
              have g2 := hC _ x m1 m2 _ _ b fb r2 f2
              rw [set_app h1.hf] at g2
              have h2 := h1.put M2
              rw [List.set_set] at g2 h2
              have hl1 : (σ.set m2 (.mp (encM vFm M1))).length = σ.length := List.length_set
              have hl2 : (σ.set m2 (.mp (encM vFm M2))).length = σ.length := List.length_set
              generalize σ.set m2 (.mp (encM vFm M1)) = σ1 at *
              generalize σ.set m2 (.mp (encM vFm M2)) = σ2 at *
              have la1 := fun (o : Ob) r => get_endL0 hl1 o r
              have la2 := fun (o p : Ob) r => get_endL1 hl1 o p r
              have lb0 := fun (o : Ob) r => get_endL0 hl2 o r
              have lb1 := fun (o p : Ob) r => get_endL1 hl2 o p r
              have lb2 := fun (o p q : Ob) r => get_endL2 hl2 o p q r
              have lb3 := fun (o p q s : Ob) r => get_endL3 hl2 o p q s r
              have sb0 := fun (x o : Ob) r => set_endL0 hl2 x o r
              have sb1 := fun (x o p : Ob) r => set_endL1 hl2 x o p r
              have sb2 := fun (x o p q : Ob) r => set_endL2 hl2 x o p q r
              have sb3 := fun (x o p q s : Ob) r => set_endL3 hl2 x o p q s r
              have tb := fun (r : Store) => take_endL0 hl2 r
              have ok2 := fun k => Ok.up h2.ok k
              have ok20 := Ok.at h2.ok
              have ok1 := fun k => Ok.up h1.ok k
              have ok10 := Ok.at h1.ok
              simp only [hl1, hl2] at ok2 ok20 ok1 ok10
              simp -implicitDefEqProofs only [go_sem, vFm, fF, ri] at g1 g2
              have ep : ∀ a b : PForm, plusS a b = if mayFrom 0 a.1 = true ∧ mayFrom 0 b.1 = true then (mergeT pl a.1 b.1, pl a.2 b.2) else nForm := fun _ _ => rfl
              have lA : fa.1.length ≤ 4294967296 := by omega
              have lB : fb.1.length ≤ 4294967296 := by omega
              have vP : ∀ (c : Prop) [Decidable c] (x y : PForm), (if c then x else y).1 = if c then x.1 else y.1 := fun c _ x y => by split <;> rfl
              by_cases d1 : hkind = 1
              · subst d1
                have ht : tell 1 fa fb = some (plusS fa fb) := by simp [tell]
                have p1 := Plus_callS fa fb hcond.1
                simp -implicitDefEqProofs only [go_sem, fF] at p1
                simp -implicitDefEqProofs only [go_sem, a_affine_finder_made, gx, go, lx, gx0, go0, lx0, ok, ok0, hg, hl1, hl2, g1, g2, la1, la2, lb0, lb1, lb2, lb3, sb0, sb1, sb2, sb3, tb, ok1, ok2, ok10, ok20, vFm, fF, ri, rows_len, rows_nil, ht, fz_beqs_rfl, n21, Option.getD_some, Option.isSome_some, Option.getD_none, Option.isSome_none, p1]
              by_cases d2 : hkind = 2
              · subst d2
                have ht : tell 2 fa fb = some (minusS fa fb) := by simp [tell]
                have p1 := Minus_callS fa fb hcond.1
                simp -implicitDefEqProofs only [go_sem, fF] at p1
                simp -implicitDefEqProofs only [go_sem, a_affine_finder_made, gx, go, lx, gx0, go0, lx0, ok, ok0, hg, hl1, hl2, g1, g2, la1, la2, lb0, lb1, lb2, lb3, sb0, sb1, sb2, sb3, tb, ok1, ok2, ok10, ok20, vFm, fF, ri, rows_len, rows_nil, ht, fz_beqs_rfl, n21, Option.getD_some, Option.isSome_some, Option.getD_none, Option.isSome_none, p1]
              by_cases d3 : hkind = 3
              · subst d3
                by_cases z1 : (fb.1.length : Int) = 0
                · have z1' : fb.1 = [] := List.eq_nil_of_length_eq_zero (by omega)
                  have ht : tell 3 fa fb = some (timesS fa fb.2) := by simp [tell, z1']
                  have p1 := Times_callS fa fb.2 lA
                  simp -implicitDefEqProofs only [go_sem, fF] at p1
                  simp -implicitDefEqProofs only [go_sem, a_affine_finder_made, gx, go, lx, gx0, go0, lx0, ok, ok0, hg, hl1, hl2, g1, g2, la1, la2, lb0, lb1, lb2, lb3, sb0, sb1, sb2, sb3, tb, ok1, ok2, ok10, ok20, vFm, fF, ri, rows_len, rows_nil, ht, fz_beqs_rfl, n21, Option.getD_some, Option.isSome_some, Option.getD_none, Option.isSome_none, p1, z1]
                · have z1' : ¬ fb.1 = [] := fun h => z1 (by rw [h]; rfl)
                  by_cases z2 : (fa.1.length : Int) = 0
                  · have z2' : fa.1 = [] := List.eq_nil_of_length_eq_zero (by omega)
                    have ht : tell 3 fa fb = some (timesS fb fa.2) := by simp [tell, z1', z2']
                    have p1 := Times_callS fb fa.2 lB
                    simp -implicitDefEqProofs only [go_sem, fF] at p1
                    simp -implicitDefEqProofs only [go_sem, a_affine_finder_made, gx, go, lx, gx0, go0, lx0, ok, ok0, hg, hl1, hl2, g1, g2, la1, la2, lb0, lb1, lb2, lb3, sb0, sb1, sb2, sb3, tb, ok1, ok2, ok10, ok20, vFm, fF, ri, rows_len, rows_nil, ht, fz_beqs_rfl, n21, Option.getD_some, Option.isSome_some, Option.getD_none, Option.isSome_none, p1, z1, z2, eq_true hcond.2]
                  · have z2' : ¬ fa.1 = [] := fun h => z2 (by rw [h]; rfl)
                    have ht : tell 3 fa fb = none := by simp [tell, z1', z2']
                    simp -implicitDefEqProofs only [go_sem, a_affine_finder_made, gx, go, lx, gx0, go0, lx0, ok, ok0, hg, hl1, hl2, g1, g2, la1, la2, lb0, lb1, lb2, lb3, sb0, sb1, sb2, sb3, tb, ok1, ok2, ok10, ok20, vFm, fF, ri, rows_len, rows_nil, ht, fz_beqs_rfl, n21, Option.getD_some, Option.isSome_some, Option.getD_none, Option.isSome_none, z1, z2]
              by_cases d4 : hkind = 8
              · subst d4
                by_cases z1 : (fb.1.length : Int) = 0
                · have z1' : fb.1 = [] := List.eq_nil_of_length_eq_zero (by omega)
                  by_cases z2 : fb.2 < 64
                  · have ht : tell 8 fa fb = some (timesS fa (IntKind.u64.wrap (1 * 2 ^ min fb.2.toNat 64))) := by simp [tell, z1', z2]
                    have p1 := Times_callS fa (IntKind.u64.wrap (1 * 2 ^ min fb.2.toNat 64)) lA
                    simp -implicitDefEqProofs only [go_sem, fF] at p1
                    simp -implicitDefEqProofs only [go_sem, a_affine_finder_made, gx, go, lx, gx0, go0, lx0, ok, ok0, hg, hl1, hl2, g1, g2, la1, la2, lb0, lb1, lb2, lb3, sb0, sb1, sb2, sb3, tb, ok1, ok2, ok10, ok20, vFm, fF, ri, rows_len, rows_nil, ht, fz_beqs_rfl, n21, Option.getD_some, Option.isSome_some, Option.getD_none, Option.isSome_none, p1, z1, z2, eq_true hcond.2]
                    
                  · have ht : tell 8 fa fb = none := by simp [tell, z1', z2]
                    simp -implicitDefEqProofs only [go_sem, a_affine_finder_made, gx, go, lx, gx0, go0, lx0, ok, ok0, hg, hl1, hl2, g1, g2, la1, la2, lb0, lb1, lb2, lb3, sb0, sb1, sb2, sb3, tb, ok1, ok2, ok10, ok20, vFm, fF, ri, rows_len, rows_nil, ht, fz_beqs_rfl, n21, Option.getD_some, Option.isSome_some, Option.getD_none, Option.isSome_none, z1, z2]
                    
                · have z1' : ¬ fb.1 = [] := fun h => z1 (by rw [h]; rfl)
                  have ht : tell 8 fa fb = none := by simp [tell, z1']
                  simp -implicitDefEqProofs only [go_sem, a_affine_finder_made, gx, go, lx, gx0, go0, lx0, ok, ok0, hg, hl1, hl2, g1, g2, la1, la2, lb0, lb1, lb2, lb3, sb0, sb1, sb2, sb3, tb, ok1, ok2, ok10, ok20, vFm, fF, ri, rows_len, rows_nil, ht, fz_beqs_rfl, n21, Option.getD_some, Option.isSome_some, Option.getD_none, Option.isSome_none, z1]
              have ht : tell hkind fa fb = none := by simp [tell, d1, d2, d3, d4]
              simp -implicitDefEqProofs only [go_sem, a_affine_finder_made, gx, go, lx, gx0, go0, lx0, ok, ok0, hg, hl1, hl2, g1, g2, la1, la2, lb0, lb1, lb2, lb3, sb0, sb1, sb2, sb3, tb, ok1, ok2, ok10, ok20, vFm, fF, ri, rows_len, rows_nil, ht, fz_beqs_rfl, n21, Option.getD_some, Option.isSome_some, Option.getD_none, Option.isSome_none, c3, c4, c5, d1, d2, d3, d4]
      · simp only [c1, c2, not_false_eq_true, or_true, if_true, ne_eq, Option.some.injEq, Prod.mk.injEq] at hm
        obtain ⟨rfl, rfl⟩ := hm
        simp -implicitDefEqProofs only [go_sem, a_affine_finder_made, gx, go, lx, gx0, go0, lx0, ok, ok0, hs, hg, c1, c2, vFm, fF, rows_nil, Option.getD_none, Option.isSome_none]
    · simp only [c1, not_false_eq_true, true_or, if_true, ne_eq, Option.some.injEq, Prod.mk.injEq] at hm
      obtain ⟨rfl, rfl⟩ := hm
      simp -implicitDefEqProofs only [go_sem, a_affine_finder_made, gx, go, lx, gx0, go0, lx0, ok, ok0, hs, hg, c1, vFm, fF, rows_nil, Option.getD_none, Option.isSome_none]
end AC

namespace AC
open Go Go.A Go.A.Lex
theorem form_call (ops : OMap) : ∀ n : Nat, FormC ops n := by
  intro n
  induction n with
  | zero => intro σ x m1 m2 M M' v f _ h; simp [formS] at h
  | succ n ih =>
    intro σ x m1 m2 M M' v f h hf
    rw [call_eq (fn := a_affine_finder_form) rfl]
    have gx := fun r => get_low h.hx r
    have gf := fun r => get_low h.hf r
    have lx := fun j => lt_low h.hx j
    have lf := fun j => lt_low h.hf j
    have gx0 := h.hx
    have gf0 := h.hf
    have lx0 := lt_low0 h.hx
    have lf0 := lt_low0 h.hf
    have ok := fun k => Ok.up h.ok k
    have ok0 := Ok.at h.ok
    have hg := mget_fm v M
    simp only [formS] at hf
    cases e : getM v M with
    | some f0 =>
      rw [e] at hf hg
      simp only [Option.some.injEq, Prod.mk.injEq] at hf
      obtain ⟨rfl, rfl⟩ := hf
      have hs := set_same h.hf
      simp -implicitDefEqProofs only [go_sem, vFm, fF] at hg hs
      simp -implicitDefEqProofs only [go_sem, a_affine_finder_form, gx, gf, lx, lf, gx0, gf0, lx0, lf0, ok, ok0, hs, hg, vFm, fF, rows_nil]
    | none =>
      rw [e] at hf hg
      simp only [Option.map_eq_some_iff] at hf
      obtain ⟨⟨r, M1⟩, hm, hf⟩ := hf
      simp only [Prod.mk.injEq] at hf
      obtain ⟨rfl, rfl⟩ := hf
      have r1 := h.app [Ob.cells 0 2 [[.f (.sl []), .f (.lit (.int .u64 0))]], .cells 0 2 [[.f (.sl []), .f (.lit (.int .u64 0))]], .cells 0 2 [[.f (.sl (rows [(v, 1)])), .f (.lit (.int .u64 0))]]] (by simp -implicitDefEqProofs only [go_sem])
      have g1 := made_call ops n ih _ x m1 m2 M M1 v r r1 hm
      rw [set_app h.hf] at g1
      have h1 := h.put M1
      have hl1 : (σ.set m2 (.mp (encM vFm M1))).length = σ.length := List.length_set
      have hset : ∀ Y, (σ.set m2 (.mp (encM vFm M1))).set m2 Y = σ.set m2 Y := fun Y => List.set_set _
      have fx := fun r => get_low h1.hx r
      have ff := fun r => get_low h1.hf r
      have fx0 := h1.hx
      have ff0 := h1.hf
      have fok := fun k => Ok.up h1.ok k
      have fok0 := Ok.at h1.ok
      have hss := fun Y r => set_app h1.hf Y r
      have h2 := h.put (putM v (keepS v r) M1)
      have uok := fun k => Ok.up h2.ok k
      have uok0 := Ok.at h2.ok
      have hu : (σ.set m2 (.mp (encM vFm (putM v (keepS v r) M1)))).length = σ.length := List.length_set
      have hp := mput_enc vFm v (keepS v r) M1
      simp only [hl1, hu] at fok fok0 uok uok0
      generalize hσ1 : σ.set m2 (.mp (encM vFm M1)) = σ1 at *
      simp only [hset] at hss
      generalize hσ2 : σ.set m2 (.mp (encM vFm (putM v (keepS v r) M1))) = σ2 at *
      have la0 := fun (o : Ob) r => get_endL0 hl1 o r
      have la1 := fun (o p : Ob) r => get_endL1 hl1 o p r
      have la2 := fun (o p q : Ob) r => get_endL2 hl1 o p q r
      have la3 := fun (o p q s : Ob) r => get_endL3 hl1 o p q s r
      have sa0 := fun (x o : Ob) r => set_endL0 hl1 x o r
      have sa1 := fun (x o p : Ob) r => set_endL1 hl1 x o p r
      have sa2 := fun (x o p q : Ob) r => set_endL2 hl1 x o p q r
      have sa3 := fun (x o p q s : Ob) r => set_endL3 hl1 x o p q s r
      have ta := fun (r : Store) => take_endL0 hl1 r
      have lb0 := fun (o : Ob) r => get_endL0 hu o r
      have lb1 := fun (o p : Ob) r => get_endL1 hu o p r
      have lb2 := fun (o p q : Ob) r => get_endL2 hu o p q r
      have lb3 := fun (o p q s : Ob) r => get_endL3 hu o p q s r
      have sb0 := fun (x o : Ob) r => set_endL0 hu x o r
      have sb1 := fun (x o p : Ob) r => set_endL1 hu x o p r
      have tb := fun (r : Store) => take_endL0 hu r
      have lx1 : ∀ j, (x < σ.length + j) = True := lx
      have lf1 : ∀ j, (m2 < σ.length + j) = True := lf
      cases r with
      | none =>
        simp only [keepS] at hp hσ2 ⊢
        simp -implicitDefEqProofs only [go_sem, vFm, fF, rows, row, Option.getD_none, Option.isSome_none] at g1 hg hp hσ2
        simp -implicitDefEqProofs only [go_sem, a_affine_finder_form, gx, gf, lx, lf, gx0, gf0, lx0, lf0, ok, ok0, hg, g1, hl1, hu, hset, fx, ff, fx0, ff0, fok, fok0, uok, uok0, hss, hp, hσ2, la0, la1, la2, la3, sa0, sa1, sa2, sa3, ta, lb0, lb1, lb2, lb3, sb0, sb1, tb, vFm, fF, rows, row]
      | some f =>
        by_cases c : 16 < f.1.length
        · have c' : (16 : Int) < (f.1.length : Int) := by omega
          simp only [keepS, if_pos c] at hp hσ2 ⊢
          simp -implicitDefEqProofs only [go_sem, vFm, fF, rows, row, Option.getD_some, Option.isSome_some] at g1 hg hp hσ2
          simp -implicitDefEqProofs only [go_sem, a_affine_finder_form, gx, gf, lx, lf, gx0, gf0, lx0, lf0, ok, ok0, hg, g1, hl1, hu, hset, fx, ff, fx0, ff0, fok, fok0, uok, uok0, hss, hp, hσ2, la0, la1, la2, la3, sa0, sa1, sa2, sa3, ta, lb0, lb1, lb2, lb3, sb0, sb1, tb, vFm, fF, rows, row, List.length_map, c']
        · have c' : ¬ (16 : Int) < (f.1.length : Int) := by omega
          simp only [keepS, if_neg c] at hp hσ2 ⊢
          simp -implicitDefEqProofs only [go_sem, vFm, fF, rows, row, Option.getD_some, Option.isSome_some] at g1 hg hp hσ2
          simp -implicitDefEqProofs only [go_sem, a_affine_finder_form, gx, gf, lx, lf, gx0, gf0, lx0, lf0, ok, ok0, hg, g1, hl1, hu, hset, fx, ff, fx0, ff0, fok, fok0, uok, uok0, hss, hp, hσ2, la0, la1, la2, la3, sa0, sa1, sa2, sa3, ta, lb0, lb1, lb2, lb3, sb0, sb1, tb, vFm, fF, rows, row, List.length_map, c']
end AC

namespace AC
open Go Go.A Go.A.Lex
def putOpsM : OMap → List POp → OMap
  | D, [] => D
  | D, o :: r => putOpsM (putM o.dst o D) r
def opsOf : OMap → List PBlock → OMap
  | D, [] => D
  | D, b :: r => opsOf (putOpsM D b.ops) r
theorem ltm_op (n : Nat) (D : OMap) : C.ltm n (encM vOp D) = true := ltm_enc vOp n (fun a => by simp [vOp, cOp, V.lt, C.lts, C.lt]) D
theorem ltm_sh (n : Nat) (D : SMap) : C.ltm n (encM vSh D) = true := ltm_enc vSh n (fun a => by simp [vSh, V.lt, C.lts, C.lt]) D
theorem mget_sh (k : Int) (D : SMap) : mget k (encM vSh D) = (getM k D).map vSh := mget_enc vSh k D
theorem mput_op (k : Int) (o : POp) (D : OMap) : mput k (V.agg [.f (.lit (.int .i64 o.kind)), .f (.lit (.int .i64 o.bits)), .f (.lit (.int .i64 o.lanes)), .f (.lit (.int .i64 o.dst)), .f (.sl (o.args.map ri)), .f (.lit (.int .u64 o.imm))]) (encM vOp D) = encM vOp (putM k o D) := mput_enc vOp k o D
abbrev ofPre (f : PFunc) (tree : List Int) (s : Int × Int) : Store := [O0 f, .cells 0 2 [[.f (.sl []), .f (.lit (.int .u64 0))]], O0 f, O0 f,
  .cells 0 8 [[.f (.sl (f.params.map ri)), .f (.lit (.int .i64 f.ret)), .f (.sl (f.blocks.map rb)), .f (.lit (.int .i64 2)), .f (.sl ((succS f).map rl)), .f (.sl ((predsS (succS f)).map rl)), .f (.sl (tree.map ri)), .map 7]],
  .cells 0 1 [[.fn F.check_checker_shape [.ptr 4 0 0 0] []], [.fn F.check_checker_typed [.ptr 4 0 0 0] []], [.fn F.check_checker_defined [.ptr 4 0 0 0] []], [.fn F.check_checker_shapes [.ptr 4 0 0 0] []], [.fn F.check_checker_places [.ptr 4 0 0 0] []]],
  .cells 0 1 [[.ptr 4 0 0 0]], .mp (encM vDef (dmapS f).1), .mp (encM vSh (shapesS f)), .cells 0 2 [[.f (.lit (.int .i64 s.1)), .f (.lit (.int .i64 s.2))]]]
abbrev ofSt (f : PFunc) (tree : List Int) (s : Int × Int) (D : OMap) (r : Store) : Store := O0 f :: .cells 0 2 [[.f (.sl []), .f (.lit (.int .u64 0))]] :: O0 f :: O0 f ::
  .cells 0 8 [[.f (.sl (f.params.map ri)), .f (.lit (.int .i64 f.ret)), .f (.sl (f.blocks.map rb)), .f (.lit (.int .i64 2)), .f (.sl ((succS f).map rl)), .f (.sl ((predsS (succS f)).map rl)), .f (.sl (tree.map ri)), .map 7]] ::
  .cells 0 1 [[.fn F.check_checker_shape [.ptr 4 0 0 0] []], [.fn F.check_checker_typed [.ptr 4 0 0 0] []], [.fn F.check_checker_defined [.ptr 4 0 0 0] []], [.fn F.check_checker_shapes [.ptr 4 0 0 0] []], [.fn F.check_checker_places [.ptr 4 0 0 0] []]] ::
  .cells 0 1 [[.ptr 4 0 0 0]] :: .mp (encM vDef (dmapS f).1) :: .mp (encM vSh (shapesS f)) :: .cells 0 2 [[.f (.lit (.int .i64 s.1)), .f (.lit (.int .i64 s.2))]] ::
  .mp (encM vOp D) :: .mp [] :: .cells 0 2 [[.map 10, .map 11]] :: r
section
variable (f : PFunc) (hf : okF f) (tree : List Int) (s : Int × Int) (v : Int)
include hf
theorem of_l0 (b : PBlock) (hb : okB b) (kb : Nat) : ∀ (d k : Nat) (D : OMap) (a0 a2 a4 a5 a6 a8 a9 a10 a14 a18 : V), b.ops.length - k = d → k ≤ b.ops.length →
    exec T affine_Of_l0 ⟨[a0, vI v, a2, .one (.ptr 1 0 0 0), a4, a5, a6, .one (.ptr 12 0 0 0), a8, a9, a10, vL (f.blocks.map rb), vI f.blocks.length, vI kb, a14, vL (b.ops.map ro), vI b.ops.length, vI k, a18], ofSt f tree s D [.cells 0 5 [cBlock b]], 0, 0⟩ =
      some (.exit 2, ⟨[vU, vI v, vU, .one (.ptr 1 0 0 0), vU, vU, vU, .one (.ptr 12 0 0 0), vU, vU, vU, vL (f.blocks.map rb), vI f.blocks.length, vI kb, vU, vU, vU, vU, vU], ofSt f tree s (putOpsM D (b.ops.drop k)) [.cells 0 5 [cBlock b]], 0, 0⟩) := by
  intro d
  induction d with
  | zero =>
    intro k D a0 a2 a4 a5 a6 a8 a9 a10 a14 a18 h1 h2
    have hk : k = b.ops.length := by omega
    subst hk
    rw [affine_Of_l0_eq, affine_Of_b0]
    simp -implicitDefEqProofs only [go_sem, ofSt, Int.lt_irrefl, List.drop_length, putOpsM, ltm_def, ltm_op, ltm_sh]
  | succ d ih =>
    intro k D a0 a2 a4 a5 a6 a8 a9 a10 a14 a18 h1 h2
    have hk : k < b.ops.length := by omega
    have hd : b.ops.drop k = b.ops[k] :: b.ops.drop (k + 1) := List.drop_eq_getElem_cons hk
    have hp := mput_op b.ops[k].dst b.ops[k] D
    have := ih (k + 1) (putM b.ops[k].dst b.ops[k] D) vU vU vU vU vU vU vU vU vU vU (by omega) (by omega)
    rw [affine_Of_l0_eq, affine_Of_b0, hd, putOpsM]
    simp -implicitDefEqProofs only [go_sem, ofSt] at this
    simp -implicitDefEqProofs only [go_sem, ofSt, ilt hk, getr hk, ro, hp, ltm_def, ltm_op, ltm_sh, wrap_succ hk hb.ops, this]
theorem of_l1 : ∀ (d k : Nat) (D : OMap) (a0 a2 a4 a5 a6 a8 a9 a10 a14 a15 a16 a17 a18 : V), f.blocks.length - k = d → k ≤ f.blocks.length →
    exec T affine_Of_l1 ⟨[a0, vI v, a2, .one (.ptr 1 0 0 0), a4, a5, a6, .one (.ptr 12 0 0 0), a8, a9, a10, vL (f.blocks.map rb), vI f.blocks.length, vI k, a14, a15, a16, a17, a18], ofSt f tree s D [], 0, 0⟩ =
      some (.exit 0, ⟨[vU, vI v, vU, .one (.ptr 1 0 0 0), vU, vU, vU, .one (.ptr 12 0 0 0), vU, vU, vU, vU, vU, vU, vU, vU, vU, vU, vU], ofSt f tree s (opsOf D (f.blocks.drop k)) [], 0, 0⟩) := by
  intro d
  induction d with
  | zero =>
    intro k D a0 a2 a4 a5 a6 a8 a9 a10 a14 a15 a16 a17 a18 h1 h2
    have hk : k = f.blocks.length := by omega
    subst hk
    rw [affine_Of_l1_eq, affine_Of_b1]
    simp -implicitDefEqProofs only [go_sem, ofSt, Int.lt_irrefl, List.drop_length, opsOf, ltm_def, ltm_op, ltm_sh]
  | succ d ih =>
    intro k D a0 a2 a4 a5 a6 a8 a9 a10 a14 a15 a16 a17 a18 h1 h2
    have hk : k < f.blocks.length := by omega
    have hd : f.blocks.drop k = f.blocks[k] :: f.blocks.drop (k + 1) := List.drop_eq_getElem_cons hk
    have hb := hf.block _ (List.getElem_mem hk)
    have q := fun a0 a2 a4 a5 a6 a8 a9 a10 a14 a18 => of_l0 f hf tree s v f.blocks[k] hb k f.blocks[k].ops.length 0 D a0 a2 a4 a5 a6 a8 a9 a10 a14 a18 (by omega) (by omega)
    simp only [List.drop_zero, Int.natCast_zero] at q
    have := ih (k + 1) (putOpsM D f.blocks[k].ops) vU vU vU vU vU vU vU vU vU vU vU vU vU (by omega) (by omega)
    rw [affine_Of_l1_eq, affine_Of_b1, hd, opsOf]
    simp -implicitDefEqProofs only [go_sem, ofSt] at this q
    simp -implicitDefEqProofs only [go_sem, ofSt, ilt hk, getr hk, rb, q, ltm_def, ltm_op, ltm_sh, wrap_succ hk hf.blocks, this]
omit hf in
theorem of_finder (D : OMap) : Finder (ofSt f tree s D []) 12 10 11 D [] := by
  refine ⟨rfl, rfl, rfl, ?_, by decide, by decide⟩
  unfold Ok
  simp -implicitDefEqProofs only [go_sem, ofSt, ltm_def, ltm_op, ltm_sh]
end
theorem Of_call_bad (f : PFunc) (hf : okF f) (tree : List Int) (hT : TreeIs f tree) (h0 : lookS f 2 tree = 0) (v : Int) (hv : getM v (shapesS f) ≠ some (64, 1)) :
    call T F.affine_Of [vFunc f, vI v] [] = some (.tup [vFm nForm, vI 10], []) := by
  rw [call_eq (fn := a_affine_Of) rfl]
  have hs := Shapes_ok f hf tree hT h0
  have hg := mget_sh v (shapesS f)
  simp -implicitDefEqProofs only [go_sem, shSt] at hs
  cases e : getM v (shapesS f) with
  | none =>
    rw [e] at hg
    simp -implicitDefEqProofs only [go_sem] at hg
    simp -implicitDefEqProofs only [go_sem, a_affine_Of, hs, hg, shift_def, shift_sh, ltm_def, ltm_sh, vFm, fF, rows_nil]
  | some p =>
    rw [e] at hg hv
    have hv' : ¬ (p.1 = 64 ∧ p.2 = 1) := fun h => hv (by rw [← h.1, ← h.2])
    simp -implicitDefEqProofs only [go_sem, vSh] at hg
    by_cases c1 : p.1 = 64
    · have c2 : ¬ p.2 = 1 := fun c2 => hv' ⟨c1, c2⟩
      simp -implicitDefEqProofs only [go_sem, a_affine_Of, hs, hg, c1, c2, shift_def, shift_sh, ltm_def, ltm_sh, vFm, fF, rows_nil]
    · simp -implicitDefEqProofs only [go_sem, a_affine_Of, hs, hg, c1, shift_def, shift_sh, ltm_def, ltm_sh, vFm, fF, rows_nil]
theorem Of_call (f : PFunc) (hf : okF f) (tree : List Int) (hT : TreeIs f tree) (h0 : lookS f 2 tree = 0) (v : Int) (hv : getM v (shapesS f) = some (64, 1)) (n : Nat) (r : PForm) (M' : FMap) (hr : formS (opsOf [] f.blocks) n [] v = some (r, M')) :
    call T F.affine_Of [vFunc f, vI v] [] = some (.tup [vFm r, vI 0], []) := by
  rw [call_eq (fn := a_affine_Of) rfl]
  have hs := Shapes_ok f hf tree hT h0
  have hg := mget_sh v (shapesS f)
  rw [hv] at hg
  have q := fun a0 a2 a4 a5 a6 a8 a9 a10 a14 a15 a16 a17 a18 => of_l1 f hf tree (64, 1) v f.blocks.length 0 [] a0 a2 a4 a5 a6 a8 a9 a10 a14 a15 a16 a17 a18 (by omega) (by omega)
  have hF := form_call (opsOf [] f.blocks) n _ 12 10 11 [] M' v r (of_finder f tree (64, 1) (opsOf [] f.blocks)) hr
  have he : encM vOp [] = [] := rfl
  simp only [List.drop_zero, Int.natCast_zero, he] at q
  simp -implicitDefEqProofs only [go_sem, shSt] at hs
  simp -implicitDefEqProofs only [go_sem, vSh] at hg
  simp -implicitDefEqProofs only [go_sem, ofSt, he, vFm, fF, List.set_cons_succ, List.set_cons_zero] at q hF
  simp -implicitDefEqProofs only [go_sem, a_affine_Of, hs, hg, q, hF, shift_def, shift_sh, ltm_def, ltm_sh, ltm_op, vFm, fF, rows_nil]
end AC
