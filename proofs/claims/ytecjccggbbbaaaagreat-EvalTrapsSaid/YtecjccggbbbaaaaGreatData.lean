/- Data of the document's types as plain Lean values, and how they lie in the machine. -/
import Derived.Test.YtecjccggbbbaaaaGreatTable
import Derived.Test.YtecjccggbbbaaaaGreatSimp
import Derived.Test.YtecjccggbbbaaaaGreatRules
set_option linter.unusedVariables false
set_option linter.unusedSimpArgs false
namespace AC
open Go Go.A Go.A.Lex
abbrev vI (x : Int) : V := .one (.f (.lit (.int .i64 x)))
abbrev vU64 (x : Int) : V := .one (.f (.lit (.int .u64 x)))
abbrev vB (x : Bool) : V := .one (.f (.lit (.bool x)))
abbrev vL (xs : List (List Fz)) : V := .one (.f (.sl xs))
abbrev vU : V := .one .un
abbrev vFn (g : Nat) (caps : List C) : V := .one (.fn g [] caps)
abbrev ei (x : Int) : Fz := .lit (.int .i64 x)
abbrev eu (x : Int) : Fz := .lit (.int .u64 x)
/-- A list's element that is a whole number. -/
def ri (x : Int) : List Fz := [.lit (.int .i64 x)]
abbrev eI (l : List Int) : Fz := .sl (l.map ri)
abbrev vIs (l : List Int) : V := .one (.f (.sl (l.map ri)))
/-- A list's element that is a list of whole numbers. -/
def rl (l : List Int) : List Fz := [.sl (l.map ri)]
abbrev vLs (l : List (List Int)) : V := .one (.f (.sl (l.map rl)))
/-- A shape. -/
def rs (s : Int × Int) : List Fz := [.lit (.int .i64 s.1), .lit (.int .i64 s.2)]
abbrev vSs (l : List (Int × Int)) : V := .one (.f (.sl (l.map rs)))
structure POp where
  kind : Int
  bits : Int
  lanes : Int
  dst : Int
  args : List Int
  imm : Int
structure PPhi where
  bits : Int
  dst : Int
  src : List Int
  args : List Int
structure PBlock where
  phis : List PPhi
  ops : List POp
  kind : Int
  arg : Int
  to : List Int
structure PFunc where
  params : List Int
  ret : Int
  blocks : List PBlock
def ro (o : POp) : List Fz := [ei o.kind, ei o.bits, ei o.lanes, ei o.dst, eI o.args, eu o.imm]
def rp (p : PPhi) : List Fz := [ei p.bits, ei p.dst, eI p.src, eI p.args]
def rb (b : PBlock) : List Fz := [.sl (b.phis.map rp), .sl (b.ops.map ro), ei b.kind, ei b.arg, eI b.to]
abbrev cOp (o : POp) : List C := [.f (ei o.kind), .f (ei o.bits), .f (ei o.lanes), .f (ei o.dst), .f (eI o.args), .f (eu o.imm)]
abbrev cPhi (p : PPhi) : List C := [.f (ei p.bits), .f (ei p.dst), .f (eI p.src), .f (eI p.args)]
abbrev cBlock (b : PBlock) : List C := [.f (.sl (b.phis.map rp)), .f (.sl (b.ops.map ro)), .f (ei b.kind), .f (ei b.arg), .f (eI b.to)]
abbrev cFunc (f : PFunc) : List C := [.f (eI f.params), .f (ei f.ret), .f (.sl (f.blocks.map rb))]
abbrev vOp (o : POp) : V := .agg (cOp o)
abbrev vPhi (p : PPhi) : V := .agg (cPhi p)
abbrev vBlock (b : PBlock) : V := .agg (cBlock b)
abbrev vFunc (f : PFunc) : V := .agg (cFunc f)

attribute [go_sem] Int.reduceEq Int.reduceNe Int.reduceAdd Int.reduceSub Int.reduceMul Int.reduceNeg Int.reduceGT Int.reduceGE
attribute [go_sem] vI vU64 vB vL vU vFn ei eu eI vIs vLs vSs cOp cPhi cBlock cFunc vOp vPhi vBlock vFunc
theorem wrap_i64 {n : Int} (h : -9223372036854775808 ≤ n) (h' : n < 9223372036854775808) : Go.IntKind.i64.wrap n = n := by
  unfold Go.IntKind.wrap Go.IntKind.bits Go.IntKind.signed
  simp only [Bool.true_and]
  split
  · rename_i h1
    simp at h1
    omega
  · rename_i h1
    simp at h1
    omega
theorem wrap_u64 {n : Int} (h : 0 ≤ n) (h' : n < 18446744073709551616) : Go.IntKind.u64.wrap n = n := by
  unfold Go.IntKind.wrap Go.IntKind.bits Go.IntKind.signed
  simp only [Bool.false_and]
  have : (2 : Int) ^ 64 = 18446744073709551616 := by decide
  rw [this]
  split <;> first | omega | (rename_i h; simp at h)
theorem wrap_succ {k n : Nat} (h : k < n) (h' : n ≤ 4294967296) : Go.IntKind.i64.wrap ((k : Int) + 1) = ((k + 1 : Nat) : Int) := by
  rw [wrap_i64] <;> omega
theorem getr {α : Type} {r : α → List Fz} {l : List α} {k : Nat} (h : k < l.length) : (l.map r)[k]? = some (r l[k]) := by simp [h]
theorem ilt {k n : Nat} (h : k < n) : ((k : Int) < (n : Int)) = True := by simp [h]
theorem nlt (n : Nat) : ((n : Int) < (n : Int)) = False := by simp
end AC

/- More words: stores that end in what is known, searches. -/
namespace AC
open Go Go.A Go.A.Lex
theorem find_none {α : Type} {p : α → Bool} {l : List α} (h : l.find? (fun x => !p x) = none) : l.all p = true := by
  simp only [List.find?_eq_none, Bool.not_eq_true', Bool.not_eq_false] at h
  simpa [List.all_eq_true] using h
theorem find_some {α : Type} {p : α → Bool} {l : List α} {x : α} (h : l.find? (fun x => !p x) = some x) : l.all p = false := by
  have h1 := List.find?_some h
  have h2 := List.mem_of_find?_eq_some h
  simp only [Bool.not_eq_true'] at h1
  exact List.all_eq_false.2 ⟨x, h2, by simp [h1]⟩
section ends
variable {α : Type} (σ r : List α) (o p q' : α)
theorem get_end0 : (σ ++ o :: r)[σ.length]? = some o := by simp
theorem get_end1 : (σ ++ o :: p :: r)[σ.length + 1]? = some p := by simp
theorem get_end2 : (σ ++ o :: p :: q' :: r)[σ.length + 2]? = some q' := by simp
theorem set_end0 (x : α) : (σ ++ o :: r).set σ.length x = σ ++ x :: r := by simp [List.set_append_right]
theorem set_end1 (x : α) : (σ ++ o :: p :: r).set (σ.length + 1) x = σ ++ o :: x :: r := by simp [List.set_append_right]
theorem set_end2 (x : α) : (σ ++ o :: p :: q' :: r).set (σ.length + 2) x = σ ++ o :: p :: x :: r := by simp [List.set_append_right]
theorem take_end0 : (σ ++ r).take σ.length = σ := by simp
theorem take_end1 : (σ ++ o :: r).take (σ.length + 1) = σ ++ [o] := by simp [List.take_append, List.take_of_length_le]
theorem take_end2 : (σ ++ o :: p :: r).take (σ.length + 2) = σ ++ [o, p] := by simp [List.take_append, List.take_of_length_le]
end ends
theorem not_le1 (n : Nat) : (n + 1 ≤ n) = False := by simp
theorem not_le2 (n : Nat) : (n + 2 ≤ n) = False := by simp
theorem not_le3 (n : Nat) : (n + 3 ≤ n) = False := by simp
theorem not_le4 (n : Nat) : (n + 4 ≤ n) = False := by simp
theorem not_le5 (n : Nat) : (n + 5 ≤ n) = False := by simp
theorem not_lt_self (n : Nat) : (n < n) = False := by simp
theorem obs_lt_app (n : Nat) : ∀ (a b : List Ob), Obs.lt n (a ++ b) = (Obs.lt n a && Obs.lt n b)
  | [], b => by simp [Obs.lt]
  | x :: a, b => by simp [Obs.lt, obs_lt_app n a b, Bool.and_assoc]
attribute [go_sem] get_end0 get_end1 get_end2 set_end0 set_end1 set_end2 take_end0 take_end1 take_end2 not_le1 not_le2 not_le3 not_le4 not_le5 obs_lt_app List.take_left'
end AC

/- More words: stores of which only the end is known. -/
namespace AC
open Go Go.A Go.A.Lex
mutual
theorem clt_mono {n m : Nat} (h : n ≤ m) : ∀ c : C, c.lt n = true → c.lt m = true
  | .f _, _ => rfl
  | .ap t _ _, e => by simp only [C.lt, decide_eq_true_eq] at e ⊢; omega
  | .ptr id _ _ _, e => by simp only [C.lt, decide_eq_true_eq] at e ⊢; omega
  | .fp _ _, _ => rfl
  | .own id _ _ _, e => by simp only [C.lt, decide_eq_true_eq] at e ⊢; omega
  | .map id, e => by simp only [C.lt, decide_eq_true_eq] at e ⊢; omega
  | .fn _ a b, e => by
    simp only [C.lt, Bool.and_eq_true] at e ⊢
    exact ⟨clts_mono h a e.1, clts_mono h b e.2⟩
  | .un, _ => rfl
theorem clts_mono {n m : Nat} (h : n ≤ m) : ∀ cs : List C, C.lts n cs = true → C.lts m cs = true
  | [], _ => by simp only [C.lts]
  | c :: cs, e => by
    simp only [C.lts, Bool.and_eq_true] at e ⊢
    exact ⟨clt_mono h c e.1, clts_mono h cs e.2⟩
end
mutual
theorem vlt_mono {n m : Nat} (h : n ≤ m) : ∀ v : V, v.lt n = true → v.lt m = true
  | .one c, e => by simp only [V.lt] at e ⊢; exact clt_mono h c e
  | .agg cs, e => by simp only [V.lt] at e ⊢; exact clts_mono h cs e
  | .tup vs, e => by simp only [V.lt] at e ⊢; exact vlts_mono h vs e
theorem vlts_mono {n m : Nat} (h : n ≤ m) : ∀ vs : List V, V.lts n vs = true → V.lts m vs = true
  | [], _ => by simp only [V.lts]
  | v :: vs, e => by
    simp only [V.lts, Bool.and_eq_true] at e ⊢
    exact ⟨vlt_mono h v e.1, vlts_mono h vs e.2⟩
end
theorem cltss_mono {n m : Nat} (h : n ≤ m) : ∀ es : List (List C), C.ltss n es = true → C.ltss m es = true
  | [], _ => by simp only [C.ltss]
  | c :: cs, e => by
    simp only [C.ltss, Bool.and_eq_true] at e ⊢
    exact ⟨clts_mono h c e.1, cltss_mono h cs e.2⟩
theorem cltm_mono {n m : Nat} (h : n ≤ m) : ∀ es : List (Int × V), C.ltm n es = true → C.ltm m es = true
  | [], _ => by simp only [C.ltm]
  | c :: cs, e => by
    simp only [C.ltm, Bool.and_eq_true] at e ⊢
    exact ⟨vlt_mono h c.2 e.1, cltm_mono h cs e.2⟩
theorem olt_mono {n m : Nat} (h : n ≤ m) : ∀ o : Ob, o.lt n = true → o.lt m = true
  | .cells _ _ es, e => by simp only [Ob.lt] at e ⊢; exact cltss_mono h es e
  | .tok _ _, _ => rfl
  | .mp es, e => by simp only [Ob.lt] at e ⊢; exact cltm_mono h es e
theorem olts_mono {n m : Nat} (h : n ≤ m) : ∀ os : List Ob, Obs.lt n os = true → Obs.lt m os = true
  | [], _ => by simp only [Obs.lt]
  | o :: os, e => by
    simp only [Obs.lt, Bool.and_eq_true] at e ⊢
    exact ⟨olt_mono h o e.1, olts_mono h os e.2⟩
theorem get_low {σ : Store} {k : Nat} {o : Ob} (h : σ[k]? = some o) (r : Store) : (σ ++ r)[k]? = some o := by
  have : k < σ.length := (List.getElem?_eq_some_iff.1 h).1
  rw [List.getElem?_append_left this, h]
theorem lt_low {σ : Store} {k : Nat} {o : Ob} (h : σ[k]? = some o) (j : Nat) : (k < σ.length + j) = True := by
  have : k < σ.length := (List.getElem?_eq_some_iff.1 h).1
  simp; omega
theorem lt_low0 {σ : Store} {k : Nat} {o : Ob} (h : σ[k]? = some o) : (k < σ.length) = True := by
  have : k < σ.length := (List.getElem?_eq_some_iff.1 h).1
  simp; omega
theorem lt_p1 (n : Nat) : (n < n + 1) = True := by simp
theorem lt_p2 (n : Nat) : (n < n + 2) = True := by simp
theorem lt_p3 (n : Nat) : (n < n + 3) = True := by simp
theorem lt_p4 (n : Nat) : (n < n + 4) = True := by simp
theorem lt_12 (n : Nat) : (n + 1 < n + 2) = True := by simp
theorem lt_13 (n : Nat) : (n + 1 < n + 3) = True := by simp
theorem lt_23 (n : Nat) : (n + 2 < n + 3) = True := by simp
theorem lt_34 (n : Nat) : (n + 3 < n + 4) = True := by simp
theorem lt_24 (n : Nat) : (n + 2 < n + 4) = True := by simp
theorem lt_14 (n : Nat) : (n + 1 < n + 4) = True := by simp
theorem le_kk (n k : Nat) : (n + k ≤ n + k) = True := by simp
theorem le_21 (n : Nat) : (n + 2 ≤ n + 1) = False := by simp
theorem le_31 (n : Nat) : (n + 3 ≤ n + 1) = False := by simp
theorem le_32 (n : Nat) : (n + 3 ≤ n + 2) = False := by simp
theorem le_41 (n : Nat) : (n + 4 ≤ n + 1) = False := by simp
theorem le_42 (n : Nat) : (n + 4 ≤ n + 2) = False := by simp
theorem le_43 (n : Nat) : (n + 4 ≤ n + 3) = False := by simp
attribute [go_sem] lt_p1 lt_p2 lt_p3 lt_p4 lt_12 lt_13 lt_23 lt_34 lt_24 lt_14 le_kk le_21 le_31 le_32 le_41 le_42 le_43
/-- A store that leads nowhere but to itself. -/
def Ok (σ : Store) : Prop := Obs.lt σ.length σ = true
theorem Ok.up {σ : Store} (h : Ok σ) (k : Nat) : Obs.lt (σ.length + k) σ = true := olts_mono (Nat.le_add_right _ _) _ h
theorem Ok.at {σ : Store} (h : Ok σ) : Obs.lt σ.length σ = true := h
theorem Ok.app {σ r : Store} (h : Ok σ) (h2 : Obs.lt (σ.length + r.length) r = true) : Ok (σ ++ r) := by
  unfold Ok
  rw [List.length_append, obs_lt_app, Ok.up h, h2]
  rfl
end AC

/- Two words more about places in a row. -/
namespace AC
open Go Go.A Go.A.Lex
theorem put_set {e : List C} {k : Nat} (c : C) (h : k < e.length) : e.take k ++ c :: e.drop (k + 1) = e.set k c := by
  rw [List.set_eq_take_append_cons_drop, if_pos h]
theorem lt_leT {a b : Nat} (h : a < b) : (a + 1 ≤ b) = True := by simp; omega
end AC
