import Derived.Test.YtecjccggbbbaaaaGreatKB
import Derived.Test.YtecjccggbbbaaaaGreatKC
set_option linter.unusedVariables false
set_option linter.unusedSimpArgs false
set_option linter.unusedSectionVars false
namespace AC
open Go Go.A Go.A.Lex
/-- Values of one number each. -/
abbrev UMap := List (Int × Int)
def vU1 (x : Int) : V := .one (.f (.sl [[.lit (.int .u64 x)]]))
abbrev obM (f : PFunc) (cm : C) (m : Nat) (fuel s : Int) : Ob := .cells 0 7 [[cm, .f (eI f.params), .f (ei f.ret), .f (.sl (f.blocks.map rb)), .map m, .f (ei fuel), .f (ei s)]]
theorem ltm_u (n : Nat) (D : UMap) : C.ltm n (encM vU1 D) = true := ltm_enc vU1 n (fun a => by simp [vU1, V.lt, C.lt]) D
theorem mget_u (k : Int) (D : UMap) : mget k (encM vU1 D) = (getM k D).map vU1 := mget_enc vU1 k D
theorem mput_u (k x : Int) (D : UMap) : mput k (V.one (.f (.sl [[.lit (.int .u64 x)]]))) (encM vU1 D) = encM vU1 (putM k x D) := mput_enc vU1 k x D
/-- A machine in a store: its object, its values. -/
structure Mach (σ : Store) (x m : Nat) (f : PFunc) (cm : C) (fuel : Int) (V : UMap) (s : Int) : Prop where
  hx : σ[x]? = some (obM f cm m fuel s)
  hm : σ[m]? = some (.mp (encM vU1 V))
  ok : Ok σ
  ne : x ≠ m
theorem setApp {σ : Store} {m : Nat} {o0 : Ob} (h : σ[m]? = some o0) (o : Ob) (r : Store) : (σ ++ r).set m o = σ.set m o ++ r := by
  rw [List.set_append_left _ _ (List.getElem?_eq_some_iff.1 h).1]
theorem setSame {σ : Store} {m : Nat} {o : Ob} (h : σ[m]? = some o) : σ.set m o = σ := by
  obtain ⟨hl, rfl⟩ := List.getElem?_eq_some_iff.1 h
  exact List.set_getElem_self hl
theorem obs_set (n m : Nat) (o : Ob) (ho : o.lt n = true) : ∀ σ : Store, Obs.lt n σ = true → Obs.lt n (σ.set m o) = true := by
  intro σ h
  induction σ generalizing m with
  | nil => exact h
  | cons a r ih =>
    simp only [Obs.lt, Bool.and_eq_true] at h
    cases m with
    | zero => simp only [List.set, Obs.lt, ho, h.2, Bool.and_self]
    | succ m => simp only [List.set, Obs.lt, h.1, ih m h.2, Bool.and_self]
theorem obs_get {n m : Nat} {o : Ob} : ∀ {σ : Store}, Obs.lt n σ = true → σ[m]? = some o → o.lt n = true := by
  intro σ h e
  induction σ generalizing m with
  | nil => simp at e
  | cons a r ih =>
    simp only [Obs.lt, Bool.and_eq_true] at h
    cases m with
    | zero =>
      simp at e
      rw [← e]
      exact h.1
    | succ m => exact ih h.2 (by simpa using e)
/-- The store, with other values and steps. -/
def stE (σ : Store) (x m : Nat) (f : PFunc) (cm : C) (fuel : Int) (V : UMap) (s : Int) : Store := (σ.set x (obM f cm m fuel s)).set m (.mp (encM vU1 V))
section
variable {σ : Store} {x m : Nat} {f : PFunc} {cm : C} {fuel : Int} {V : UMap} {s : Int}
theorem stE_length (V' : UMap) (s' : Int) : (stE σ x m f cm fuel V' s').length = σ.length := by simp [stE]
theorem Mach.lx (h : Mach σ x m f cm fuel V s) : x < σ.length := (List.getElem?_eq_some_iff.1 h.hx).1
theorem Mach.lm (h : Mach σ x m f cm fuel V s) : m < σ.length := (List.getElem?_eq_some_iff.1 h.hm).1
theorem Mach.to (h : Mach σ x m f cm fuel V s) (V' : UMap) (s' : Int) : Mach (stE σ x m f cm fuel V' s') x m f cm fuel V' s' := by
  have h1 := h.lx
  have h2 := h.lm
  have hc : Ob.lt σ.length (obM f cm m fuel s) = true := obs_get h.ok h.hx
  refine ⟨?_, ?_, ?_, h.ne⟩
  · rw [stE, List.getElem?_set_ne (fun e => h.ne e.symm)]
    simp [h1]
  · simp [stE, h2]
  · unfold Ok
    rw [stE_length]
    exact obs_set _ _ _ (by simp only [Ob.lt]; exact ltm_u _ _) _ (obs_set _ _ _ (by simp only [Ob.lt, C.ltss, C.lts, C.lt, Bool.and_eq_true] at hc ⊢; exact hc) _ h.ok)
theorem Mach.app (h : Mach σ x m f cm fuel V s) (r : Store) (hr : Obs.lt (σ.length + r.length) r = true) : Mach (σ ++ r) x m f cm fuel V s :=
  ⟨get_low h.hx r, get_low h.hm r, h.ok.app hr, h.ne⟩
theorem Mach.same (h : Mach σ x m f cm fuel V s) : stE σ x m f cm fuel V s = σ := by rw [stE, setSame h.hx, setSame h.hm]
theorem stE_app (h : Mach σ x m f cm fuel V s) (V' : UMap) (s' : Int) (r : Store) : stE (σ ++ r) x m f cm fuel V' s' = stE σ x m f cm fuel V' s' ++ r := by
  rw [stE, setApp h.hx, List.set_append_left _ _ (by rw [List.length_set]; exact h.lm), stE]
theorem Mach.setx (h : Mach σ x m f cm fuel V s) (s' : Int) : σ.set x (obM f cm m fuel s') = stE σ x m f cm fuel V s' := by
  unfold stE
  exact (setSame (by rw [List.getElem?_set_ne h.ne]; exact h.hm)).symm
theorem Mach.setm (h : Mach σ x m f cm fuel V s) (V' : UMap) : σ.set m (.mp (encM vU1 V')) = stE σ x m f cm fuel V' s := by
  rw [stE, setSame h.hx]
theorem stE_stE (h : Mach σ x m f cm fuel V s) (V' V'' : UMap) (s' s'' : Int) : stE (stE σ x m f cm fuel V' s') x m f cm fuel V'' s'' = stE σ x m f cm fuel V'' s'' := by
  unfold stE
  rw [List.set_comm _ _ (fun e => h.ne e.symm), List.set_set, List.set_set]
theorem em_one_call (h : Mach σ x m f cm fuel V s) (o : POp) (i : Nat) (a v : Int) (ha : o.args[i]? = some a) (hv : getM a V = some v) : call T F.eval_machine_one [.one (.ptr x 0 0 0), vOp o, vI i] σ = some (vU64 v, σ) := by
  rw [call_eq (fn := a_eval_machine_one) rfl]
  have gx := fun r => get_low h.hx r
  have gm := fun r => get_low h.hm r
  have ok := fun k => Ok.up h.ok k
  have ok0 := Ok.at h.ok
  have hg := mget_u a V
  have hi : (o.args.map ri)[i]? = some (ri a) := by simp [ha]
  rw [hv] at hg
  simp -implicitDefEqProofs only [go_sem, vU1] at hg
  simp -implicitDefEqProofs only [go_sem, a_eval_machine_one, gx, gm, ok, ok0, hg, hi, ri, Int.natCast_nonneg, Int.toNat_natCast]
theorem em_step_call (h : Mach σ x m f cm fuel V s) (hs : 0 ≤ s ∧ s < 4611686018427387904) : call T F.eval_machine_step [.one (.ptr x 0 0 0)] σ = some (if s = fuel then (vB false, σ) else (vB true, stE σ x m f cm fuel V (s + 1))) := by
  rw [call_eq (fn := a_eval_machine_step) rfl]
  have gx := h.hx
  have ok0 := Ok.at h.ok
  have hw : IntKind.i64.wrap (s + 1) = s + 1 := by rw [wrap_i64] <;> omega
  have hset := h.setx (s + 1)
  have okS : Obs.lt σ.length (stE σ x m f cm fuel V (s + 1)) = true := by
    have := (h.to V (s + 1)).ok
    unfold Ok at this
    rwa [stE_length] at this
  by_cases c : s = fuel
  · simp -implicitDefEqProofs only [go_sem, a_eval_machine_step, gx, ok0, eq_true c]
  · simp -implicitDefEqProofs only [go_sem, a_eval_machine_step, gx, ok0, c, hw, hset, okS, stE_length]
end
theorem same_call (v : Int) : call T F.eval_same [vU64 v, vI 1] [] = some (vU1 v, []) := by
  rw [call_eq (fn := a_eval_same) rfl]
  have w1 : IntKind.i64.wrap 1 = 1 := rfl
  have w01 : IntKind.i64.wrap (0 + 1) = 1 := rfl
  have l1 : ((1 : Int) ≤ (LIM : Int)) = True := by simp [LIM]
  have n1 : ((1 : Nat) : Int) = 1 := rfl
  simp -implicitDefEqProofs only [go_sem, a_eval_same, eval_same_l0_eq, eval_same_b0, w1, w01, l1, n1, vU1]
end AC

namespace AC
open Go Go.A Go.A.Lex
def vTwo : Option Int → V
  | none => .tup [vL [], vI 8]
  | some r => .tup [vU1 r, vI 0]
section
variable {σ : Store} {x m : Nat} {f : PFunc} {cm : C} {fuel : Int} {V : UMap} {s : Int}
theorem em_constant_call (hσ : Ok σ) (p : C) (o : POp) (hl : o.lanes = 1) : call T F.eval_machine_constant [.one p, vOp o] σ = some (.tup [vU1 o.imm, vI 0], σ) := by
  rw [call_eq (fn := a_eval_machine_constant) rfl]
  have ok := fun k => Ok.up hσ k
  have ok0 := Ok.at hσ
  have hs := same_call o.imm
  simp -implicitDefEqProofs only [go_sem, vU1] at hs
  simp -implicitDefEqProofs only [go_sem, a_eval_machine_constant, ok, ok0, hl, hs, vU1]
theorem em_two_call (h : Mach σ x m f cm fuel V s) (o : POp) (a b va vb : Int) (ha : o.args = [a, b]) (hva : getM a V = some va) (hvb : getM b V = some vb) (hk : 1 ≤ o.kind ∧ o.kind ≤ 12) (hw : mayW o.bits = true)
    (ra : 0 ≤ va ∧ va < 18446744073709551616) (rb' : 0 ≤ vb ∧ vb < 18446744073709551616) : call T F.eval_machine_two [.one (.ptr x 0 0 0), vOp o] σ = some (vTwo (doS o.kind o.bits va vb), σ) := by
  rw [call_eq (fn := a_eval_machine_two) rfl]
  have gx := fun r => get_low h.hx r
  have gm := fun r => get_low h.hm r
  have ok := fun k => Ok.up h.ok k
  have ok0 := Ok.at h.ok
  have g1 := mget_u a V
  have g2 := mget_u b V
  rw [hva] at g1
  rw [hvb] at g2
  have hd := Do_call o.bits hw va vb o.kind hk ra.1 ra.2 rb'.1 rb'.2
  have n1 : ((1 : Nat) : Int) = 1 := rfl
  have w01 : IntKind.i64.wrap (0 + 1) = 1 := rfl
  have l1 : 1 ≤ LIM := by unfold LIM; omega
  simp -implicitDefEqProofs only [go_sem, vU1] at g1 g2
  cases e : doS o.kind o.bits va vb with
  | none =>
    rw [e] at hd
    simp -implicitDefEqProofs only [go_sem, vDo] at hd
    simp -implicitDefEqProofs only [go_sem, a_eval_machine_two, eval_machine_two_l0_eq, eval_machine_two_b0, gx, gm, ok, ok0, g1, g2, ha, ri, n1, w01, hd, vTwo]
  | some r =>
    rw [e] at hd
    simp -implicitDefEqProofs only [go_sem, vDo] at hd
    simp -implicitDefEqProofs only [go_sem, a_eval_machine_two, eval_machine_two_l0_eq, eval_machine_two_b0, gx, gm, ok, ok0, g1, g2, ha, ri, n1, w01, l1, hd, vTwo, vU1]
end
abbrev cP (x : Nat) : C := .ptr x 0 0 0
abbrev vTwoF (x : Nat) : V := .one (.fn F.eval_machine_two [cP x] [])
abbrev waysE (x : Nat) : List (Int × V) := [(0, .one (.fn F.eval_machine_constant [cP x] [])), (13, .one (.fn F.eval_machine_choose [cP x] [])), (14, .one (.fn F.eval_machine_width [cP x] [])), (15, .one (.fn F.eval_machine_width [cP x] [])),
  (16, .one (.fn F.eval_machine_load [cP x] [])), (17, .one (.fn F.eval_machine_store [cP x] [])), (21, .one (.fn F.eval_machine_pack [cP x] [])), (22, .one (.fn F.eval_machine_get [cP x] [])),
  (1, vTwoF x), (2, vTwoF x), (3, vTwoF x), (4, vTwoF x), (5, vTwoF x), (6, vTwoF x), (7, vTwoF x), (8, vTwoF x), (9, vTwoF x), (10, vTwoF x), (11, vTwoF x), (12, vTwoF x)]
abbrev vG (n : Nat) : V := .one (.fn F.eval_machine_guarded_1 [] [cP n, cP (n + 1), cP (n + 2)])
def allE (x n : Nat) : List (Int × V) := [(0, .one (.fn F.eval_machine_constant [cP x] [])), (13, .one (.fn F.eval_machine_choose [cP x] [])), (14, .one (.fn F.eval_machine_width [cP x] [])), (15, .one (.fn F.eval_machine_width [cP x] [])),
  (16, .one (.fn F.eval_machine_load [cP x] [])), (17, .one (.fn F.eval_machine_store [cP x] [])), (21, .one (.fn F.eval_machine_pack [cP x] [])), (22, .one (.fn F.eval_machine_get [cP x] [])),
  (1, vTwoF x), (2, vTwoF x), (3, vTwoF x), (4, vTwoF x), (5, vTwoF x), (6, vTwoF x), (7, vTwoF x), (8, vTwoF x), (9, vTwoF x), (10, vTwoF x), (11, vTwoF x), (12, vTwoF x), (18, vG (n + 1)), (19, vG (n + 4)), (20, vG (n + 7))]
abbrev bI (k : Int) : Ob := .cells 0 1 [[.f (ei k)]]
abbrev bP (x : Nat) : Ob := .cells 0 1 [[cP x]]
abbrev allO (x n : Nat) : Store := [.mp (allE x n), bP x, bI 16, bI 1, bP x, bI 17, bI 2, bP x, bI 4, bI 2]
theorem Ok.cons_mp {σ : Store} (hσ : Ok σ) (es : List (Int × V)) (h : C.ltm (σ.length + 1) es = true) : Ok (σ ++ [.mp es]) := hσ.app (by simp only [Obs.lt, Ob.lt, List.length_cons, List.length_nil, h]; rfl)
section
variable {σ : Store} (hσ : Ok σ) (x : Nat) (hx : x < σ.length)
include hσ hx
theorem em_ways_call : call T F.eval_machine_ways [.one (cP x)] σ = some (.one (.map σ.length), σ ++ [.mp (waysE x)]) := by
  rw [call_eq (fn := a_eval_machine_ways) rfl]
  have ok := fun k => Ok.up hσ k
  have ok0 := Ok.at hσ
  have w : ∀ k : Nat, k ≤ 12 → IntKind.i64.wrap ((k : Int) + 1) = ((k + 1 : Nat) : Int) := fun k hk => by rw [wrap_i64] <;> omega
  have w2 : IntKind.i64.wrap 2 = 2 := rfl
  have w3 : IntKind.i64.wrap 3 = 3 := rfl
  have w4 : IntKind.i64.wrap 4 = 4 := rfl
  have w5 : IntKind.i64.wrap 5 = 5 := rfl
  have w6 : IntKind.i64.wrap 6 = 6 := rfl
  have w7 : IntKind.i64.wrap 7 = 7 := rfl
  have w8 : IntKind.i64.wrap 8 = 8 := rfl
  have w9 : IntKind.i64.wrap 9 = 9 := rfl
  have w10 : IntKind.i64.wrap 10 = 10 := rfl
  have w11 : IntKind.i64.wrap 11 = 11 := rfl
  have w12 : IntKind.i64.wrap 12 = 12 := rfl
  have w13 : IntKind.i64.wrap 13 = 13 := rfl
  have hx1 : ∀ k, (x < σ.length + k) = True := fun k => by simp; omega
  simp -implicitDefEqProofs only [go_sem, a_eval_machine_ways, eval_machine_ways_l0_eq, eval_machine_ways_b0, ok, ok0, hx1, w2, w3, w4, w5, w6, w7, w8, w9, w10, w11, w12, w13]
theorem em_guarded_call (k a : Int) : call T F.eval_machine_guarded [.one (cP x), vI k, vI a] σ = some (vG σ.length, σ ++ [bP x, bI k, bI a]) := by
  rw [call_eq (fn := a_eval_machine_guarded) rfl]
  have ok := fun k => Ok.up hσ k
  have ok0 := Ok.at hσ
  have hx1 : ∀ k, (x < σ.length + k) = True := fun k => by simp; omega
  simp -implicitDefEqProofs only [go_sem, a_eval_machine_guarded, ok, ok0, hx1]
theorem em_all_call : call T F.eval_machine_all [.one (cP x)] σ = some (.one (.map σ.length), σ ++ allO x σ.length) := by
  rw [call_eq (fn := a_eval_machine_all) rfl]
  have ok := fun k => Ok.up hσ k
  have ok0 := Ok.at hσ
  have hx1 : ∀ k, (x < σ.length + k) = True := fun k => by simp; omega
  have hx2 : ∀ k, x < σ.length + k := fun k => by omega
  have hW := em_ways_call hσ x hx
  let e1 : List (Int × V) := waysE x ++ [(18, vG (σ.length + 1))]
  let e2 : List (Int × V) := e1 ++ [(19, vG (σ.length + 4))]
  have o1 : Ok (σ ++ [.mp (waysE x)]) := hσ.app (by simp -implicitDefEqProofs only [go_sem, hx1])
  have o2 : Ok (σ ++ [.mp e1, bP x, bI 16, bI 1]) := hσ.app (by simp -implicitDefEqProofs only [go_sem, e1, hx1])
  have o3 : Ok (σ ++ [.mp e2, bP x, bI 16, bI 1, bP x, bI 17, bI 2]) := hσ.app (by simp -implicitDefEqProofs only [go_sem, e1, e2, hx1])
  have g1 := em_guarded_call o1 x (by simp; omega) 16 1
  have g2 := em_guarded_call o2 x (by simp; omega) 17 2
  have g3 := em_guarded_call o3 x (by simp; omega) 4 2
  simp -implicitDefEqProofs only [go_sem, e1, e2] at hW g1 g2 g3
  simp -implicitDefEqProofs only [go_sem, a_eval_machine_all, ok, ok0, hx1, hW, g1, g2, g3]
  rfl
end
end AC

namespace AC
open Go Go.A Go.A.Lex
/-- What an operation comes to: nothing known, a trap, a value. -/
def stepV (V : UMap) (o : POp) : Option (Option Int) :=
  if o.kind = 0 then (if o.lanes = 1 then some (some o.imm) else none)
  else if 1 ≤ o.kind ∧ o.kind ≤ 12 then match o.args with
    | [a, b] => match getM a V, getM b V with
      | some p, some q => if mayW o.bits = true ∧ (0 ≤ p ∧ p < 18446744073709551616) ∧ (0 ≤ q ∧ q < 18446744073709551616) then some (doS o.kind o.bits p q) else none
      | _, _ => none
    | _ => none
  else none
inductive RR where
  | stop (V : UMap) (code s : Int) (o : POp)
  | go (V : UMap) (s : Int)
def opsS (fuel : Int) : List POp → UMap → Int → Option RR
  | [], V, s => some (.go V s)
  | o :: r, V, s => if s = fuel then some (.stop V 9 s o) else match stepV V o with
    | none => none
    | some none => some (.stop V 8 (s + 1) o)
    | some (some v) => opsS fuel r (if 0 < o.dst then putM o.dst v V else V) (s + 1)
theorem mget_all0 (x n : Nat) : mget 0 (allE x n) = some (.one (.fn F.eval_machine_constant [cP x] [])) := rfl
theorem mget_all2 (x n : Nat) (k : Int) (h : 1 ≤ k ∧ k ≤ 12) : mget k (allE x n) = some (vTwoF x) := by
  have : k = 1 ∨ k = 2 ∨ k = 3 ∨ k = 4 ∨ k = 5 ∨ k = 6 ∨ k = 7 ∨ k = 8 ∨ k = 9 ∨ k = 10 ∨ k = 11 ∨ k = 12 := by omega
  rcases this with rfl | rfl | rfl | rfl | rfl | rfl | rfl | rfl | rfl | rfl | rfl | rfl <;> rfl
section ends
variable {α : Type} {τ : List α} {n : Nat} (h : τ.length = n) (l : List α)
include h
theorem get_k (k : Nat) : (τ ++ l)[n + k]? = l[k]? := by
  subst h
  rw [List.getElem?_append_right (by omega), Nat.add_sub_cancel_left]
theorem get_k0 : (τ ++ l)[n]? = l[0]? := get_k h l 0
theorem set_k (k : Nat) (o : α) : (τ ++ l).set (n + k) o = τ ++ l.set k o := by subst h; simp [List.set_append_right]
theorem take_k (k : Nat) : (τ ++ l).take (n + k) = τ ++ l.take k := by subst h; simp [List.take_append, List.take_of_length_le]
end ends
abbrev tailO (x n : Nat) (b : PBlock) (r : Store) : Store := .mp (allE x n) :: bP x :: bI 16 :: bI 1 :: bP x :: bI 17 :: bI 2 :: bP x :: bI 4 :: bI 2 :: .cells 0 5 [cBlock b] :: r
section
variable {σ : Store} {x m : Nat} {f : PFunc} {cm : C} {fuel : Int} {V0 : UMap} {s0 : Int} (h : Mach σ x m f cm fuel V0 s0)
abbrev stF (σ : Store) (x m : Nat) (f : PFunc) (cm : C) (fuel : Int) (V : UMap) (s : Int) (r : Store) : Store := stE σ x m f cm fuel V s ++ r
include h
theorem tail_lt (b : PBlock) (r : Store) (k : Nat) (hk : 10 ≤ k) (hr : Obs.lt (σ.length + k) r = true) : Obs.lt (σ.length + k) (tailO x σ.length b r) = true := by
  have hx := h.lx
  have hx1 : ∀ k, (x < σ.length + k) = True := fun k => by simp; omega
  have c : ∀ j, j < 10 → (σ.length + j < σ.length + k) = True := fun j hj => by simp; omega
  have c1 := c 1 (by omega)
  have c2 := c 2 (by omega)
  have c3 := c 3 (by omega)
  have c4 := c 4 (by omega)
  have c5 := c 5 (by omega)
  have c6 := c 6 (by omega)
  have c7 := c 7 (by omega)
  have c8 := c 8 (by omega)
  have c9 := c 9 (by omega)
  simp -implicitDefEqProofs only [go_sem, allE, hx1, hr, Nat.add_assoc, c1, c2, c3, c4, c5, c6, c7, c8, c9]
theorem allE_lt (k : Nat) (hk : 10 ≤ k) : C.ltm (σ.length + k) (allE x σ.length) = true := by
  have := tail_lt h ⟨[], [], 0, 0, []⟩ [] k hk rfl
  simp only [Obs.lt, Ob.lt, Bool.and_eq_true] at this
  exact this.1
theorem mach_tail (b : PBlock) (r : Store) (hr : Obs.lt (σ.length + (11 + r.length)) r = true) (V : UMap) (s : Int) : Mach (stE σ x m f cm fuel V s ++ tailO x σ.length b r) x m f cm fuel V s :=
  (h.to V s).app _ (by
    rw [stE_length, show (tailO x σ.length b r).length = 11 + r.length from by simp only [List.length_cons]; omega]
    exact tail_lt h b r _ (by omega) hr)
theorem stF_step (V V' : UMap) (s s' : Int) (r : Store) : stE (stE σ x m f cm fuel V s ++ r) x m f cm fuel V' s' = stE σ x m f cm fuel V' s' ++ r := by
  rw [stE_app (h.to V s), stE_stE h]
end
end AC

namespace AC
open Go Go.A Go.A.Lex
theorem u64_wrap_imm (x : Int) (h : 0 ≤ x ∧ x < 18446744073709551616) : IntKind.u64.wrap x = x := wrap_u64 h.1 h.2
section
variable {σ : Store} {x m : Nat} {f : PFunc} {cm : C} {fuel : Int} {V0 : UMap} {s0 : Int} (h : Mach σ x m f cm fuel V0 s0)
omit h in
theorem step_ok {σ' : Store} {V : UMap} {s : Int} (M : Mach σ' x m f cm fuel V s) (n : Nat) (o : POp) (q : Option Int) (e : stepV V o = some q) :
    ∃ g, mget o.kind (allE x n) = some (.one (.fn g [cP x] [])) ∧ call T g [.one (cP x), vOp o] σ' = some (vTwo q, σ') := by
  unfold stepV at e
  by_cases c0 : o.kind = 0
  · rw [if_pos c0] at e
    by_cases c1 : o.lanes = 1
    · rw [if_pos c1] at e
      injection e with e
      subst e
      exact ⟨_, by rw [c0]; exact mget_all0 x n, em_constant_call M.ok (cP x) o c1⟩
    · rw [if_neg c1] at e
      cases e
  · rw [if_neg c0] at e
    by_cases c1 : 1 ≤ o.kind ∧ o.kind ≤ 12
    · rw [if_pos c1] at e
      split at e
      · rename_i a b ha
        split at e
        · rename_i p q' hp hq
          split at e
          · rename_i hr
            injection e with e
            subst e
            exact ⟨_, mget_all2 x n _ c1, em_two_call M o a b p q' ha hp hq c1 hr.1 hr.2.1 hr.2.2⟩
          · cases e
        · cases e
      · cases e
    · rw [if_neg c1] at e
      cases e
include h
theorem run_l0 (a : V) (ha : V.lt σ.length a = true) (b : PBlock) (hb : okB b) : ∀ (d k : Nat) (V : UMap) (s : Int) (r : RR) a1 a2 a5 a7 a8 a9 a13 a14 a15 a16 a17 a18 a19, b.ops.length - k = d → k ≤ b.ops.length → 0 ≤ s → s + d < 4611686018427387904 → opsS fuel (b.ops.drop k) V s = some r →
    exec T eval_machine_run_l0 ⟨[.one (cP x), a1, a2, .one (.map σ.length), a, a5, .one (cP (σ.length + 10)), a7, a8, a9, vL (b.ops.map ro), vI b.ops.length, vI k, a13, a14, a15, a16, a17, a18, a19], stE σ x m f cm fuel V s ++ tailO x σ.length b [], σ.length, σ.length⟩ =
      some (match r with
        | .go V' s' => (.exit 0, ⟨[.one (cP x), vU, vU, .one (.map σ.length), a, vU, .one (cP (σ.length + 10)), vU, vU, vU, vU, vU, vU, vU, vU, vU, vU, vU, vU, vU], stE σ x m f cm fuel V' s' ++ tailO x σ.length b [], σ.length, σ.length⟩)
        | .stop V' c s' o => (.ret, ⟨[vU, vI c, vU64 0, vU, vU, vU, vU, vU, vU, vU, vU, vU, vU, vU, vU, vU, vU, vU, vU, vU], stE σ x m f cm fuel V' s' ++ tailO x σ.length b [.cells 0 6 [cOp o]], σ.length, σ.length⟩)) := by
  have hx := h.lx
  have hm := h.lm
  have hx1 : ∀ k, (x < σ.length + k) = True := fun k => by simp; omega
  have gk := fun V s l k => get_k (stE_length (σ := σ) (x := x) (m := m) (f := f) (cm := cm) (fuel := fuel) V s) l k
  have gk0 := fun V s l => get_k0 (stE_length (σ := σ) (x := x) (m := m) (f := f) (cm := cm) (fuel := fuel) V s) l
  have sk := fun V s l k o => set_k (stE_length (σ := σ) (x := x) (m := m) (f := f) (cm := cm) (fuel := fuel) V s) l k o
  have tk := fun V s l k => take_k (stE_length (σ := σ) (x := x) (m := m) (f := f) (cm := cm) (fuel := fuel) V s) l k
  have gx := fun V s r => get_low (h.to V s).hx r
  have gm := fun V s r => get_low (h.to V s).hm r
  have okS : ∀ V s k, Obs.lt (σ.length + k) (stE σ x m f cm fuel V s) = true := fun V s k => by
    have := Ok.up (h.to V s).ok k
    rwa [stE_length] at this
  have hlt : ∀ j k, j < k → (σ.length + j < σ.length + k) = True := fun j k hj => by simp; omega
  have va : ∀ k, V.lt (σ.length + k) a = true := fun k => vlt_mono (Nat.le_add_right _ _) _ ha
  have c0 : ∀ k, (σ.length < σ.length + (k + 1)) = True := fun k => by simp
  have p1 := hlt 1 11 (by omega)
  have p2 := hlt 2 11 (by omega)
  have p3 := hlt 3 11 (by omega)
  have p4 := hlt 4 11 (by omega)
  have p5 := hlt 5 11 (by omega)
  have p6 := hlt 6 11 (by omega)
  have p7 := hlt 7 11 (by omega)
  have p8 := hlt 8 11 (by omega)
  have p9 := hlt 9 11 (by omega)
  have p10 := hlt 10 11 (by omega)
  have p0 : (σ.length < σ.length + 11) = True := by simp
  have lA := allE_lt h 11 (by omega)
  intro d
  induction d with
  | zero =>
    intro k V s r a1 a2 a5 a7 a8 a9 a13 a14 a15 a16 a17 a18 a19 h1 h2 h3 h4 hr
    have hk : k = b.ops.length := by omega
    subst hk
    rw [List.drop_length, opsS] at hr
    injection hr with hr
    subst hr
    have n11 : (σ.length + 11 ≤ σ.length + 11) = True := by simp
    rw [eval_machine_run_l0_eq, eval_machine_run_b0]
    simp -implicitDefEqProofs only [go_sem, Int.lt_irrefl, stE_length, n11]
  | succ d ih =>
    intro k V s r a1 a2 a5 a7 a8 a9 a13 a14 a15 a16 a17 a18 a19 h1 h2 h3 h4 hr
    have hk : k < b.ops.length := by omega
    have hd : b.ops.drop k = b.ops[k] :: b.ops.drop (k + 1) := List.drop_eq_getElem_cons hk
    rw [hd, opsS] at hr
    have mt := mach_tail h b [.cells 0 6 [cOp b.ops[k]]] (by simp -implicitDefEqProofs only [go_sem])
    have hstep := em_step_call (mt V s) ⟨h3, by omega⟩
    rw [stF_step h] at hstep
    have n11 : (σ.length + 12 ≤ σ.length + 11) = False := by simp
    rw [eval_machine_run_l0_eq, eval_machine_run_b0]
    by_cases c1 : s = fuel
    · rw [if_pos c1] at hr hstep
      injection hr with hr
      subst hr
      simp -implicitDefEqProofs only [go_sem] at hstep
      simp -implicitDefEqProofs only [go_sem, ilt hk, getr hk, ro, stE_length, gk, gk0, sk, tk, hstep]
    · rw [if_neg c1] at hr hstep
      have mt2 := mt V (s + 1)
      cases e : stepV V b.ops[k] with
      | none => rw [e] at hr; cases hr
      | some q =>
        rw [e] at hr
        obtain ⟨g, hg, hc⟩ := step_ok mt2 σ.length b.ops[k] q e
        have hset : ∀ V' l, (stE σ x m f cm fuel V (s + 1) ++ l).set m (.mp (encM vU1 V')) = stE σ x m f cm fuel V' (s + 1) ++ l := fun V' l => by
          rw [setApp (h.to V (s + 1)).hm, (h.to V (s + 1)).setm, stE_stE h]
        simp -implicitDefEqProofs only [go_sem] at hstep hc
        cases q with
        | none =>
          injection hr with hr
          subst hr
          simp -implicitDefEqProofs only [go_sem, vTwo] at hc
          simp -implicitDefEqProofs only [go_sem, ilt hk, getr hk, ro, stE_length, gk, gk0, sk, tk, hstep, hg, hc]
        | some v =>
          simp -implicitDefEqProofs only [go_sem, vTwo, vU1] at hc
          by_cases c2 : 0 < b.ops[k].dst
          · simp only [c2, if_true] at hr
            have := ih (k + 1) _ _ r vU vU vU vU vU vU vU vU vU vU vU vU vU (by omega) (by omega) (by omega) (by omega) hr
            simp -implicitDefEqProofs only [go_sem] at this
            simp -implicitDefEqProofs only [go_sem, ilt hk, getr hk, ro, stE_length, gk, gk0, sk, tk, hstep, hg, hc, c2, gx, gm, mput_u, hset, n11, hx1, okS, va, c0, p0, p1, p2, p3, p4, p5, p6, p7, p8, p9, p10, lA, wrap_succ hk hb.ops, this]
          · simp only [c2, if_false] at hr
            have := ih (k + 1) _ _ r vU vU vU vU vU vU vU vU vU vU vU vU vU (by omega) (by omega) (by omega) (by omega) hr
            simp -implicitDefEqProofs only [go_sem] at this
            simp -implicitDefEqProofs only [go_sem, ilt hk, getr hk, ro, stE_length, gk, gk0, sk, tk, hstep, hg, hc, c2, n11, hx1, okS, va, c0, p0, p1, p2, p3, p4, p5, p6, p7, p8, p9, p10, lA, wrap_succ hk hb.ops, this]
end
end AC

namespace AC
open Go Go.A Go.A.Lex
def picks (V : UMap) (fr : Int) : List Int → List Int → Option (List Int)
  | [], _ => some []
  | s :: ss, a :: az => if s = fr then (getM a V).bind fun v => (picks V fr ss az).map (v :: ·) else picks V fr ss az
  | _ :: _, [] => none
def allPicks (V : UMap) (fr : Int) : List PPhi → Option (List Int)
  | [] => some []
  | p :: r => (picks V fr p.src p.args).bind fun l => (allPicks V fr r).map (l ++ ·)
def putPhiV : UMap → List PPhi → List Int → Option UMap
  | V, [], _ => some V
  | V, p :: r, v :: vs => putPhiV (putM p.dst v V) r vs
  | _, _ :: _, [] => none
def phisV (V : UMap) (fr : Int) (b : PBlock) : Option UMap := (allPicks V fr b.phis).bind (putPhiV V b.phis)
def rv (x : Int) : List Fz := [.sl [[.lit (.int .u64 x)]]]
theorem ap_rv1 (l : List Int) (x : Int) : l.map rv ++ [[.sl [[.lit (.int .u64 x)]]]] = (l ++ [x]).map rv := by simp [rv]
theorem picks_length {V : UMap} {fr : Int} : ∀ {ss az l}, picks V fr ss az = some l → l.length ≤ ss.length
  | [], _, l, h => by simp [picks] at h; subst h; simp
  | s :: ss, [], l, h => by simp [picks] at h
  | s :: ss, a :: az, l, h => by
    rw [picks] at h
    split at h
    · rw [Option.bind_eq_some_iff] at h
      obtain ⟨v, _, h⟩ := h
      rw [Option.map_eq_some_iff] at h
      obtain ⟨l', h, rfl⟩ := h
      have := picks_length h
      simp; omega
    · have := picks_length h
      simp; omega
section
variable {σ : Store} {x m : Nat} {f : PFunc} {cm : C} {fuel : Int} {V : UMap} {s : Int} (h : Mach σ x m f cm fuel V s) (b : PBlock) (hb : okB b) (fr : Int)
include h hb
theorem phis_l0 (p : PPhi) (hp : okPhi p) (j : Nat) (big : Nat) (hbig : big + p.src.length ≤ 4294967296) : ∀ (d k : Nat) (acc l : List Int) a1 a6 a7 a8 a9 a13 a17 a18 a19 a20 a21 a22, p.src.length - k = d → k ≤ p.src.length → acc.length ≤ big + k → picks V fr (p.src.drop k) (p.args.drop k) = some l →
    exec T eval_machine_phis_l0 ⟨[.one (cP x), a1, vI fr, .one (cP σ.length), .one (.ap (σ.length + 1) 0 (acc.map rv)), .one (cP (σ.length + 2)), a6, a7, a8, a9, vL (b.phis.map rp), vI b.phis.length, vI j, a13, vIs p.src, vI p.src.length, vI k, a17, a18, a19, a20, a21, a22],
        σ ++ [.cells 0 5 [cBlock b], .tok 1 [acc.length], .cells 0 4 [cPhi p]], σ.length, σ.length⟩ =
      some (.exit 2, ⟨[.one (cP x), vU, vI fr, .one (cP σ.length), .one (.ap (σ.length + 1) 0 ((acc ++ l).map rv)), vU, vU, vU, vU, vU, vL (b.phis.map rp), vI b.phis.length, vI j, vU, vU, vU, vU, vU, vU, vU, vU, vU, vU],
        σ ++ [.cells 0 5 [cBlock b], .tok 1 [(acc ++ l).length], .cells 0 4 [cPhi p]], σ.length, σ.length⟩) := by
  have hx := h.lx
  have gx := fun r => get_low h.hx r
  have gm := fun r => get_low h.hm r
  have gk := fun l k => get_k (rfl : σ.length = σ.length) l k
  have sk := fun l k o => set_k (rfl : σ.length = σ.length) l k o
  have n3 : (σ.length + 3 ≤ σ.length + 3) = True := by simp
  intro d
  induction d with
  | zero =>
    intro k acc l a1 a6 a7 a8 a9 a13 a17 a18 a19 a20 a21 a22 h1 h2 h3 hl
    have hk : k = p.src.length := by omega
    subst hk
    rw [List.drop_length, picks] at hl
    injection hl with hl
    subst hl
    rw [eval_machine_phis_l0_eq, eval_machine_phis_b0]
    simp -implicitDefEqProofs only [go_sem, Int.lt_irrefl, List.append_nil, n3]
  | succ d ih =>
    intro k acc l a1 a6 a7 a8 a9 a13 a17 a18 a19 a20 a21 a22 h1 h2 h3 hl
    have hk : k < p.src.length := by omega
    have hd : p.src.drop k = p.src[k] :: p.src.drop (k + 1) := List.drop_eq_getElem_cons hk
    rw [eval_machine_phis_l0_eq, eval_machine_phis_b0]
    rw [hd] at hl
    cases ea : p.args.drop k with
    | nil => rw [ea, picks] at hl; cases hl
    | cons a0 az =>
      have hk2 : k < p.args.length := by
        have := congrArg List.length ea
        simp at this
        omega
      have ea2 := List.drop_eq_getElem_cons hk2
      rw [ea] at ea2
      injection ea2 with ea3 ea4
      subst ea3 ea4
      rw [ea, picks] at hl
      by_cases c : p.src[k] = fr
      · rw [if_pos c, Option.bind_eq_some_iff] at hl
        obtain ⟨v, hv, hl⟩ := hl
        rw [Option.map_eq_some_iff] at hl
        obtain ⟨l', hl, rfl⟩ := hl
        have hg := mget_u p.args[k] V
        rw [hv] at hg
        have hlim : acc.length + 1 ≤ LIM := by unfold LIM; omega
        have := ih (k + 1) (acc ++ [v]) l' vU vU vU vU vU vU vU vU vU vU vU vU (by omega) (by omega) (by simp; omega) hl
        rw [List.append_assoc, List.singleton_append, ← ap_rv1] at this
        simp -implicitDefEqProofs only [go_sem, vU1] at this hg
        simp -implicitDefEqProofs only [go_sem, ilt hk, getr hk, getr hk2, ri, eq_true c, gx, gm, gk, sk, hg, hlim, List.length_map, n3, wrap_succ hk hp.1, this]
      · rw [if_neg c] at hl
        have := ih (k + 1) acc l vU vU vU vU vU vU vU vU vU vU vU vU (by omega) (by omega) (by omega) hl
        simp -implicitDefEqProofs only [go_sem] at this
        simp -implicitDefEqProofs only [go_sem, ilt hk, getr hk, getr hk2, ri, c, gx, gm, gk, sk, List.length_map, n3, wrap_succ hk hp.1, this]
end
end AC
