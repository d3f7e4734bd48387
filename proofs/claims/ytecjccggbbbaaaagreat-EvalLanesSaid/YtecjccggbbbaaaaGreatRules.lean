/- How pieces of the machine's code follow one another, as rules. -/
import Derived.Test.YtecjccggbbbaaaaGreatSimp
set_option linter.unusedVariables false
set_option linter.unusedSimpArgs false
namespace Go.A
section rules
variable {T : Nat → Option Entry} {s s1 s2 : St} {a b c : Code} {e : Ex} {r : Option (Ex × St)}
theorem r_seq (h : exec T a s = some (.normal, s1)) (h2 : exec T b s1 = r) : exec T (.seq a b) s = r := by
  rw [exec_seq, h]
  exact h2
theorem r_seqx (h : exec T a s = some (e, s1)) (he : e ≠ .normal) : exec T (.seq a b) s = some (e, s1) := by
  rw [exec_seq, h]
  cases e
  case normal => exact absurd rfl he
  all_goals rfl
theorem r_ct {x : X} (hc : (R.mk [] s.env s.st s.base s.lim).get x = .one (.f (.lit (.bool true)))) (h : exec T a s = r) : exec T (.cond x a b) s = r := by
  rw [exec_cond, hc]
  exact h
theorem r_cf {x : X} (hc : (R.mk [] s.env s.st s.base s.lim).get x = .one (.f (.lit (.bool false)))) (h : exec T b s = r) : exec T (.cond x a b) s = r := by
  rw [exec_cond, hc]
  exact h
theorem r_cb {x : X} (t : Bool) (hc : (R.mk [] s.env s.st s.base s.lim).get x = .one (.f (.lit (.bool t)))) (h : exec T (if t then a else b) s = r) : exec T (.cond x a b) s = r := by
  rw [exec_cond, hc]
  cases t <;> exact h
theorem r_skip : exec T .skip s = some (.normal, s) := exec_skip T s
theorem r_block {id : Nat} (h : exec T a s = some (e, s1)) : exec T (.block id a) s = some (blockK id (e, s1)) := by
  rw [exec_block, h]
  rfl
theorem r_blockn {id : Nat} (h : exec T a s = some (.normal, s1)) : exec T (.block id a) s = some (.normal, s1) := by
  rw [exec_block, h]
  rfl
theorem r_blocke {id : Nat} (h : exec T a s = some (.exit id, s1)) : exec T (.block id a) s = some (.normal, s1) := by
  rw [exec_block, h]
  simp only [Option.map_some, blockK, if_true]
theorem r_blockr {id : Nat} (h : exec T a s = some (.ret, s1)) : exec T (.block id a) s = some (.ret, s1) := by
  rw [exec_block, h]
  rfl
theorem r_loop {live : List Bool} {objs : Nat} (hc : c = .loop live objs b) (h : exec T b s = some (.normal, s1)) (hk : s1.clear live objs = some s2) (h2 : exec T c s2 = r) : exec T c s = r := by
  subst hc
  rw [exec_loop, h]
  simp only [Option.bind_some, loopK, hk]
  exact h2
theorem r_loopx {live : List Bool} {objs : Nat} (hc : c = .loop live objs b) (h : exec T b s = some (e, s1)) (he : e ≠ .normal) : exec T c s = some (e, s1) := by
  subst hc
  rw [exec_loop, h]
  cases e
  case normal => exact absurd rfl he
  all_goals rfl
theorem r_call {f : Nat} {fn : Fun} {args : List V} {σ : Store} {x : V × Store} (h : T f = some (.fn fn)) (hn : args.length = fn.np) (hb : exec T fn.body (enter fn args σ) = some (e, s1)) (hl : leave fn.raw fn.results (e, s1) = some x) : call T f args σ = some x := by
  rw [call_eq h, if_pos hn, hb]
  exact hl
end rules
end Go.A
namespace Go.A
/-! Pieces of code by their place. -/
def Code.p1 : Code → Code
  | .seq a _ => a
  | .cond _ a _ => a
  | .block _ a => a
  | c => c
def Code.p2 : Code → Code
  | .seq _ b => b
  | .cond _ _ b => b
  | c => c
end Go.A
attribute [go_sem] true_or or_true or_self false_or or_false Go.A.exec_regd Go.A.regD Go.A.samePair Go.A.sameRes List.all_cons List.all_nil List.headD_cons Int.natCast_nonneg Int.toNat_natCast Int.natCast_zero
