import Derived.Test.YtecjccggbbbaaaaGreatKK
set_option linter.unusedVariables false
set_option linter.unusedSimpArgs false
set_option linter.unusedSectionVars false
namespace AC
open Go Go.A Go.A.Lex
theorem may8_call : call T F.mem_may [vI 8, vI 1] [] = some (vB true, []) := by
  rw [call_eq (fn := a_mem_may) rfl]
  simp -implicitDefEqProofs only [go_sem, a_mem_may]
/-- A memory in a store: a row of bytes (or nothing), and what was touched. -/
structure MemO (τ : Store) (mid tk : Nat) (bc : C) (n : Nat) (tr : List (List Fz)) : Prop where
  hm : τ[mid]? = some (.cells 0 2 [[bc, .ap tk 0 tr]])
  ht : τ[tk]? = some (.tok 3 [tr.length])
  hl : alen (.one bc) = some (vint .i64 n)
  n : n ≤ 4096
  tr : tr.length ≤ 100000
  ok : Ok τ
  ne : mid ≠ tk
section
variable {τ : Store} {mid tk n : Nat} {bc : C} {tr : List (List Fz)} (M : MemO τ mid tk bc n tr) (at' : Int) (ha : 0 ≤ at' ∧ at' < 256)
include M ha
theorem There_call : call T F.mem_Mem_There [.one (cP mid), vU64 at', vI 1] τ = some (vB (decide (1 ≤ n) && decide (at' + 1 ≤ n)), τ) := by
  rw [call_eq (fn := a_mem_Mem_There) rfl]
  have gm := M.hm
  have hl := M.hl
  have ok0 := Ok.at M.ok
  have hn := M.n
  have w1 : IntKind.i64.wrap ((n : Int) - 1) = (n : Int) - 1 := by rw [wrap_i64] <;> omega
  simp -implicitDefEqProofs only [go_sem] at hl
  by_cases c : 1 ≤ n
  · have c1 : (1 : Int) ≤ (n : Int) := by omega
    have w2 : IntKind.u64.wrap ((n : Int) - 1) = (n : Int) - 1 := wrap_u64 (by omega) (by omega)
    have e : (at' ≤ (n : Int) - 1) = (at' + 1 ≤ (n : Int)) := by apply propext; omega
    simp -implicitDefEqProofs only [go_sem, a_mem_Mem_There, gm, hl, ok0, w1, w2, eq_true c, eq_true c1, e]
  · have c1 : ¬ (1 : Int) ≤ (n : Int) := by omega
    simp -implicitDefEqProofs only [go_sem, a_mem_Mem_There, gm, hl, ok0, w1, c, c1]
theorem Read_trap (hn : ¬ at' + 1 ≤ (n : Int)) : call T F.mem_Mem_Read [.one (cP mid), vU64 at', vI 8, vI 1] τ = some (.tup [vL [], vI 8], τ) := by
  rw [call_eq (fn := a_mem_Mem_Read) rfl]
  have hT : call T F.mem_Mem_There [.one (cP mid), vU64 at', vI 1] (τ ++ [.tok 1 [0]]) = some (vB false, τ ++ [.tok 1 [0]]) := by
    have := There_call (τ := τ ++ [.tok 1 [0]]) ⟨get_low M.hm _, get_low M.ht _, M.hl, M.n, M.tr, M.ok.app rfl, M.ne⟩ at' ha
    rw [decide_eq_false hn, Bool.and_false] at this
    exact this
  have hm8 := may8_call
  have ok0 := Ok.at M.ok
  have hlm : mid < τ.length := (List.getElem?_eq_some_iff.1 M.hm).1
  have w1 : IntKind.u64.wrap 0 = 0 := rfl
  have w2 : IntKind.i64.wrap 0 = 0 := rfl
  have w3 : IntKind.u64.wrap (at' + 0) = at' := by rw [Int.add_zero]; exact wrap_u64 (by omega) (by omega)
  have w4 : IntKind.i64.wrap 1 = 1 := rfl
  have d1 : Int.tdiv 8 8 = 1 := rfl
  have l1 : (at' < at') = False := by simp
  have n1 : (τ.length + 1 ≤ τ.length) = False := by simp
  have n2 : (τ.length + 1 ≤ τ.length + 1) = True := by simp
  have tk0 := take_k (rfl : τ.length = τ.length) [Ob.tok 1 [0]] 0
  simp only [Nat.add_zero, List.take_zero, List.append_nil] at tk0
  simp -implicitDefEqProofs only [go_sem] at hT hm8
  simp -implicitDefEqProofs only [go_sem, a_mem_Mem_Read, mem_Mem_Read_s4, mem_Mem_Read_l3_eq, mem_Mem_Read_b3, exec_sc, hm8, hT, w1, w2, w3, w4, d1, Int.zero_mul, l1, n1, n2, ok0, tk0]
end
end AC

namespace AC
open Go Go.A Go.A.Lex
def touchF (at' c : Int) : List Fz := [.lit (.bool false), .lit (.int .u64 at'), .lit (.int .u8 c)]
def memUp (τ : Store) (mid tk : Nat) (bc : C) (tr : List (List Fz)) : Store := (τ.set tk (.tok 3 [tr.length])).set mid (.cells 0 2 [[bc, .ap tk 0 tr]])
set_option maxRecDepth 100000 in
theorem or0 {c : Int} (h0 : 0 ≤ c) (h1 : c < 256) : orU 0 c = c := by
  have h : ∀ n : Nat, n < 256 → orU 0 (n : Int) = n := by decide
  have := h c.toNat (by omega)
  rw [Int.toNat_of_nonneg h0] at this
  exact this
section
variable {τ : Store} {mid tk n : Nat} {bc : C} {tr : List (List Fz)} (M : MemO τ mid tk bc n tr)
include M
theorem MemO.up (tr' : List (List Fz)) (h : tr'.length ≤ 100000) : MemO (memUp τ mid tk bc tr') mid tk bc n tr' := by
  have h1 := (List.getElem?_eq_some_iff.1 M.hm).1
  have h2 := (List.getElem?_eq_some_iff.1 M.ht).1
  have hb : Ob.lt τ.length (.cells 0 2 [[bc, .ap tk 0 tr]]) = true := obs_get M.ok M.hm
  refine ⟨by simp [memUp, h1], ?_, M.hl, M.n, h, ?_, M.ne⟩
  · rw [memUp, List.getElem?_set_ne M.ne]
    simp [h2]
  · unfold Ok
    rw [show (memUp τ mid tk bc tr').length = τ.length from by simp [memUp]]
    exact obs_set _ _ _ (by simp only [Ob.lt, C.ltss, C.lts, C.lt, Bool.and_eq_true] at hb ⊢; exact hb) _ (obs_set _ _ _ rfl _ M.ok)
theorem memUp_app (tr' : List (List Fz)) (r : Store) : memUp (τ ++ r) mid tk bc tr' = memUp τ mid tk bc tr' ++ r := by
  have h1 := (List.getElem?_eq_some_iff.1 M.hm).1
  rw [memUp, setApp M.ht, List.set_append_left _ _ (by rw [List.length_set]; exact h1), memUp]
theorem Read_ok (p : Nat) (hp : p < n) (hp2 : p < 256) (rid : Nat) (hbc : bc = .own rid 1 0 n) (rows' : List (List C)) (hrow : τ[rid]? = some (.cells 1 1 rows')) (c : Int) (hc : rows'[p]? = some [.f (.lit (.int .u8 c))]) (hc0 : 0 ≤ c ∧ c < 256) (htr : tr.length < 100000) :
    call T F.mem_Mem_Read [.one (cP mid), vU64 p, vI 8, vI 1] τ = some (.tup [vU1 c, vI 0], memUp τ mid tk bc (tr ++ [touchF p c])) := by
  subst hbc
  rw [call_eq (fn := a_mem_Mem_Read) rfl]
  have hok1 : Ok (τ ++ [.tok 1 [0]]) := M.ok.app rfl
  have hT : call T F.mem_Mem_There [.one (cP mid), vU64 p, vI 1] (τ ++ [.tok 1 [0]]) = some (vB true, τ ++ [.tok 1 [0]]) := by
    have := There_call (τ := τ ++ [.tok 1 [0]]) ⟨get_low M.hm _, get_low M.ht _, M.hl, M.n, M.tr, hok1, M.ne⟩ p (by omega)
    rw [decide_eq_true (show 1 ≤ n by omega), decide_eq_true (show (p : Int) + 1 ≤ n by omega)] at this
    exact this
  have hm8 := may8_call
  have hlm : mid < τ.length := (List.getElem?_eq_some_iff.1 M.hm).1
  have hlt : tk < τ.length := (List.getElem?_eq_some_iff.1 M.ht).1
  have hn := M.n
  have gm := fun r => get_low M.hm r
  have gt := fun r => get_low M.ht r
  have gr := fun r => get_low hrow r
  have gk0 := fun l => get_k0 (rfl : τ.length = τ.length) l
  have w1 : IntKind.u64.wrap 0 = 0 := rfl
  have w2 : IntKind.i64.wrap 0 = 0 := rfl
  have w3 : IntKind.u64.wrap ((p : Int) + 0) = p := by rw [Int.add_zero]; exact wrap_u64 (by omega) (by omega)
  have w4 : IntKind.i64.wrap 1 = 1 := rfl
  have w5 : IntKind.u64.wrap 1 = 1 := rfl
  have w6 : IntKind.u64.wrap ((p : Int) + 1) = (p : Int) + 1 := wrap_u64 (by omega) (by omega)
  have w7 : IntKind.u64.wrap c = c := wrap_u64 (by omega) (by omega)
  have w8 : IntKind.u64.wrap (c * 2 ^ min 0 64) = c := by
    show IntKind.u64.wrap (c * 1) = c
    rw [Int.mul_one]
    exact w7
  have d1 : Int.tdiv 8 8 = 1 := rfl
  have m0 : IntKind.i64.wrap (8 * 0) = 0 := rfl
  have l1 : ((p : Int) < (p : Int)) = False := by simp
  have tp : ((p : Int) + 1).toNat = p + 1 := by omega
  have tp1 : (0 ≤ (p : Int) + 1) = True := by simp; omega
  have sl1 : (p ≤ p + 1) = True := by simp
  have sl2 : (p + 1 ≤ n) = True := by simp; omega
  have sl3 : p + 1 - p = 1 := by omega
  have n11 : ((1 : Nat) : Int) = 1 := rfl
  have hlim : tr.length + 1 ≤ LIM := by have := M.tr; unfold LIM; omega
  have hlim1 : 1 ≤ LIM := by unfold LIM; omega
  obtain ⟨τ1, hτ1⟩ : ∃ t : Store, t = τ.set tk (.tok 3 [tr.length + 1]) := ⟨_, rfl⟩
  obtain ⟨τ2, hτ2⟩ : ∃ t : Store, t = memUp τ mid tk (.own rid 1 0 n) (tr ++ [touchF p c]) := ⟨_, rfl⟩
  have hl1 : τ1.length = τ.length := by rw [hτ1, List.length_set]
  have hl2 : τ2.length = τ.length := by rw [hτ2]; simp [memUp]
  have e1 : τ1[mid]? = some (.cells 0 2 [[.own rid 1 0 n, .ap tk 0 tr]]) := by rw [hτ1, List.getElem?_set_ne (fun e => M.ne e.symm)]; exact M.hm
  have sT : ∀ r, (τ ++ r).set tk (.tok 3 [tr.length + 1]) = τ1 ++ r := fun r => by rw [setApp M.ht, hτ1]
  have g1 := fun r => get_low e1 r
  have sM : ∀ r, (τ1 ++ r).set mid (.cells 0 2 [[.own rid 1 0 n, .ap tk 0 (tr ++ [[.lit (.bool false), .lit (.int .u64 p), .lit (.int .u8 c)]])]]) = τ2 ++ r := fun r => by
    rw [setApp e1, hτ2, memUp, hτ1, List.length_append]
    rfl
  have gE := fun l => get_k0 hl2 l
  have sE := fun l o => set_k hl2 l 0 o
  have tE := fun l => take_k hl2 l 0
  have ok2 : Obs.lt τ.length τ2 = true := by
    have := (M.up (tr ++ [touchF p c]) (by simp; omega)).ok
    unfold Ok at this
    rw [← hτ2, hl2] at this
    exact this
  have n1 : (τ.length + 1 ≤ τ.length) = False := by simp
  have n2 : (τ.length + 1 ≤ τ.length + 1) = True := by simp
  simp only [Nat.add_zero, List.take_zero, List.append_nil] at sE tE
  rw [← hτ2]
  simp -implicitDefEqProofs only [go_sem] at hT hm8
  simp -implicitDefEqProofs only [go_sem, a_mem_Mem_Read, mem_Mem_Read_s4, mem_Mem_Read_l3_eq, mem_Mem_Read_b3, mem_Mem_Read_l2_eq, mem_Mem_Read_b2, exec_sc, hm8, hT, w1, w2, w3, w4, w5, w6, w7, w8, d1, m0, Int.zero_mul, Int.mul_zero, l1, gm, gt, gr, gk0, Int.natCast_nonneg, Int.toNat_natCast, tp, tp1, sl1, sl2, sl3, n11, hc, hlim, hlim1, sT, g1, sM, gE, sE, tE, hl1, hl2, ok2, n1, n2]
  show some (V.tup [vU1 (orU 0 c), vI 0], τ2) = _
  rw [or0 hc0.1 hc0.2]
end
end AC

namespace AC
open Go Go.A Go.A.Lex
theorem MemO.app {τ : Store} {mid tk n : Nat} {bc : C} {tr : List (List Fz)} (M : MemO τ mid tk bc n tr) (r : Store) (hr : Obs.lt (τ.length + r.length) r = true) : MemO (τ ++ r) mid tk bc n tr :=
  ⟨get_low M.hm r, get_low M.ht r, M.hl, M.n, M.tr, M.ok.app hr, M.ne⟩
/-- What one byte's reading comes to. -/
structure Byte (τ : Store) (mid tk : Nat) (bc : C) (n : Nat) (tr : List (List Fz)) (p : Nat) (q : Option Int) (τ' : Store) : Prop where
  small : p < 256
  short : tr.length < 100000
  no : q = none → ¬ (p : Int) + 1 ≤ n ∧ τ' = τ
  yes : ∀ c, q = some c → ∃ rid rows, bc = .own rid 1 0 n ∧ p < n ∧ τ[rid]? = some (.cells 1 1 rows) ∧ rows[p]? = some [.f (.lit (.int .u8 c))] ∧ (0 ≤ c ∧ c < 256) ∧ τ' = memUp τ mid tk bc (tr ++ [touchF p c])
theorem Byte.app {τ τ' : Store} {mid tk n : Nat} {bc : C} {tr : List (List Fz)} (M : MemO τ mid tk bc n tr) {p : Nat} {q : Option Int} (B : Byte τ mid tk bc n tr p q τ') (r : Store) : Byte (τ ++ r) mid tk bc n tr p q (τ' ++ r) := by
  refine ⟨B.small, B.short, fun h => ?_, fun c h => ?_⟩
  · obtain ⟨h1, rfl⟩ := B.no h
    exact ⟨h1, rfl⟩
  · obtain ⟨rid, rows, h1, h2, h3, h4, h5, rfl⟩ := B.yes c h
    exact ⟨rid, rows, h1, h2, get_low h3 r, h4, h5, (memUp_app M _ r).symm⟩
theorem Byte.length {τ τ' : Store} {mid tk n : Nat} {bc : C} {tr : List (List Fz)} {p : Nat} {q : Option Int} (B : Byte τ mid tk bc n tr p q τ') : τ'.length = τ.length := by
  cases q with
  | none => rw [(B.no rfl).2]
  | some c =>
    obtain ⟨_, _, _, _, _, _, _, rfl⟩ := B.yes c rfl
    simp [memUp]
theorem Byte.ok {τ τ' : Store} {mid tk n : Nat} {bc : C} {tr : List (List Fz)} (M : MemO τ mid tk bc n tr) {p : Nat} {q : Option Int} (B : Byte τ mid tk bc n tr p q τ') : Ok τ' := by
  cases q with
  | none => rw [(B.no rfl).2]; exact M.ok
  | some c =>
    obtain ⟨_, _, _, _, _, _, _, rfl⟩ := B.yes c rfl
    have := B.short
    exact (M.up _ (by simp; omega)).ok
theorem Read_call {τ τ' : Store} {mid tk n : Nat} {bc : C} {tr : List (List Fz)} (M : MemO τ mid tk bc n tr) {p : Nat} {q : Option Int} (B : Byte τ mid tk bc n tr p q τ') : call T F.mem_Mem_Read [.one (cP mid), vU64 p, vI 8, vI 1] τ = some (vTwo q, τ') := by
  have hp := B.small
  cases q with
  | none =>
    obtain ⟨h1, rfl⟩ := B.no rfl
    exact Read_trap M p (by omega) h1
  | some c =>
    obtain ⟨rid, rows, h1, h2, h3, h4, h5, rfl⟩ := B.yes c rfl
    exact Read_ok M p h2 hp rid h1 rows h3 c h4 h5 B.short
section
variable {τ τ' : Store} {x m mid tk n : Nat} {f : PFunc} {fuel : Int} {V : UMap} {s : Int} {bc : C} {tr : List (List Fz)} (h : Mach τ x m f (cP mid) fuel V s) (M : MemO τ mid tk bc n tr)
include h M
theorem em_load_call (o : POp) (a : Int) (ha : o.args[0]? = some a) (p : Nat) (hp : getM a V = some (p : Int)) (hb : o.bits = 8) (hl : o.lanes = 1) (q : Option Int) (B : Byte τ mid tk bc n tr p q τ') :
    call T F.eval_machine_load [.one (cP x), vOp o] τ = some (vTwo q, τ') := by
  rw [call_eq (fn := a_eval_machine_load) rfl]
  obtain ⟨okd, obt, oln, ods, oar, oim⟩ := o
  simp only at ha hb hl
  subst hb hl
  have hr : Obs.lt (τ.length + 1) [Ob.cells 0 6 [cOp ⟨okd, 8, 1, ods, oar, oim⟩]] = true := rfl
  have hO := em_one_call (h.app [.cells 0 6 [cOp ⟨okd, 8, 1, ods, oar, oim⟩]] hr) ⟨okd, 8, 1, ods, oar, oim⟩ 0 a p ha hp
  have hR := Read_call (M.app [.cells 0 6 [cOp ⟨okd, 8, 1, ods, oar, oim⟩]] hr) (B.app M [.cells 0 6 [cOp ⟨okd, 8, 1, ods, oar, oim⟩]])
  have gx := fun r => get_low h.hx r
  have gk0 := fun l => get_k0 (rfl : τ.length = τ.length) l
  have gE := fun l => get_k0 B.length l
  have tE := fun l => take_k B.length l 0
  have ok2 : Obs.lt τ.length τ' = true := by
    have := B.ok M
    unfold Ok at this
    rwa [B.length] at this
  have n1 : (τ.length + 1 ≤ τ.length) = False := by simp
  have hlen := B.length
  simp only [Nat.add_zero, List.take_zero, List.append_nil] at tE
  cases q with
  | none =>
    simp -implicitDefEqProofs only [go_sem, vTwo] at hO hR
    simp -implicitDefEqProofs only [go_sem, a_eval_machine_load, gx, gk0, hO, hR, hlen, n1, tE, ok2, vTwo]
  | some c =>
    simp -implicitDefEqProofs only [go_sem, vTwo, vU1] at hO hR
    simp -implicitDefEqProofs only [go_sem, a_eval_machine_load, gx, gk0, hO, hR, hlen, n1, tE, ok2, vTwo, vU1]
end
end AC

namespace AC
open Go Go.A Go.A.Lex
theorem mget_ways16 (x : Nat) : mget 16 (waysE x) = some (.one (.fn F.eval_machine_load [cP x] [])) := rfl
section
variable {τ τ' : Store} {x m mid tk n : Nat} {f : PFunc} {fuel : Int} {V : UMap} {s : Int} {bc : C} {tr : List (List Fz)} (h : Mach τ x m f (cP mid) fuel V s) (M : MemO τ mid tk bc n tr)
variable (b1 b2 b3 : Nat) (h1 : τ[b1]? = some (bP x)) (h2 : τ[b2]? = some (bI 16)) (h3 : τ[b3]? = some (bI 1))
include h h1
theorem em_guard_no (dst ac aa ad g d : Int) (hg : getM ac V = some g) (hd : getM ad V = some d) (hg1 : ¬ g = 1) :
    call T F.eval_machine_guarded_1 [vOp ⟨18, 8, 1, dst, [ac, aa, ad], 0⟩, .one (cP b1), .one (cP b2), .one (cP b3)] τ = some (vTwo (some d), τ) := by
  rw [call_eq (fn := a_eval_machine_guarded_1) rfl]
  let o : POp := ⟨18, 8, 1, dst, [ac, aa, ad], 0⟩
  have hO := em_one_call (h.app [.cells 0 6 [cOp o]] rfl) o 0 ac g rfl hg
  have gx := fun r => get_low h.hx r
  have gm := fun r => get_low h.hm r
  have gb1 := fun r => get_low h1 r
  have gk0 := fun l => get_k0 (rfl : τ.length = τ.length) l
  have ok0 := Ok.at h.ok
  have hgd := mget_u ad V
  rw [hd] at hgd
  have n1 : (τ.length + 1 ≤ τ.length) = False := by simp
  have w2 : IntKind.i64.wrap ((3 : Int) - 1) = 2 := rfl
  have w3 : ((3 : Nat) : Int) = 3 := rfl
  have w4 : IntKind.i64.wrap 2 = 2 := rfl
  simp -implicitDefEqProofs only [go_sem, vU1, o, ri, List.map_cons, List.map_nil] at hgd hO
  simp -implicitDefEqProofs only [go_sem, a_eval_machine_guarded_1, gx, gm, gb1, gk0, hO, hg1, hgd, ri, w2, w3, w4, n1, ok0, vTwo, vU1]
include M h2 h3
theorem em_guard_yes (dst ac aa ad g : Int) (hg : getM ac V = some g) (hg1 : g = 1) (p : Nat) (hp : getM aa V = some (p : Int)) (q : Option Int) (B : Byte τ mid tk bc n tr p q τ') :
    call T F.eval_machine_guarded_1 [vOp ⟨18, 8, 1, dst, [ac, aa, ad], 0⟩, .one (cP b1), .one (cP b2), .one (cP b3)] τ = some (vTwo q, τ') := by
  rw [call_eq (fn := a_eval_machine_guarded_1) rfl]
  subst hg1
  let o : POp := ⟨18, 8, 1, dst, [ac, aa, ad], 0⟩
  let o2 : POp := ⟨16, 8, 1, dst, [aa], 0⟩
  have hx := h.lx
  have hO := em_one_call (h.app [.cells 0 6 [cOp o]] rfl) o 0 ac 1 rfl hg
  have hok : Ok (τ ++ [.cells 0 6 [cOp o], .cells 0 6 [cOp o2]]) := h.ok.app rfl
  have hW := em_ways_call hok x (by simp; omega)
  have c1 : ∀ k, (x < τ.length + k) = True := fun k => by simp; omega
  have hrr : Obs.lt (τ.length + 3) [.cells 0 6 [cOp o], .cells 0 6 [cOp o2], .mp (waysE x)] = true := by
    simp -implicitDefEqProofs only [go_sem, c1]
  have hL := em_load_call (h.app [.cells 0 6 [cOp o], .cells 0 6 [cOp o2], .mp (waysE x)] hrr) (M.app [.cells 0 6 [cOp o], .cells 0 6 [cOp o2], .mp (waysE x)] hrr) o2 aa rfl p hp rfl rfl q (B.app M _)
  have gx := fun r => get_low h.hx r
  have gb1 := fun r => get_low h1 r
  have gb2 := fun r => get_low h2 r
  have gb3 := fun r => get_low h3 r
  have gk0 := fun l => get_k0 (rfl : τ.length = τ.length) l
  have gk := fun l k => get_k (rfl : τ.length = τ.length) l k
  have sk := fun l k o => set_k (rfl : τ.length = τ.length) l k o
  have hlen := B.length
  have tE := fun l => take_k B.length l 0
  have ok2 : Obs.lt τ.length τ' = true := by
    have := B.ok M
    unfold Ok at this
    rwa [hlen] at this
  have n1 : (τ.length + 3 ≤ τ.length) = False := by simp
  have hbq : Fz.beqs [[Fz.lit (.int .i64 ac)], [.lit (.int .i64 aa)], [.lit (.int .i64 ad)]] [[.lit (.int .i64 ac)], [.lit (.int .i64 aa)], [.lit (.int .i64 ad)]] = true := by simp [Fz.beqs, Fz.beqR, Fz.beq, Value.beq]
  have hbq2 : Fz.beqs [[Fz.lit (.int .i64 aa)]] [[.lit (.int .i64 aa)]] = true := by simp [Fz.beqs, Fz.beqR, Fz.beq, Value.beq]
  have w2 : IntKind.i64.wrap (1 + 1) = 2 := rfl
  have w4 : IntKind.i64.wrap 2 = 2 := rfl
  simp only [Nat.add_zero, List.take_zero, List.append_nil] at tE
  cases q with
  | none =>
    simp -implicitDefEqProofs only [go_sem, o, o2, ri, List.map_cons, List.map_nil, vTwo] at hO hW hL
    simp -implicitDefEqProofs only [go_sem, a_eval_machine_guarded_1, gx, gb1, gb2, gb3, gk, gk0, sk, hbq, hbq2, hO, hW, hL, ri, w2, w4, hlen, n1, tE, ok2, vTwo]
  | some c =>
    simp -implicitDefEqProofs only [go_sem, o, o2, ri, List.map_cons, List.map_nil, vTwo, vU1] at hO hW hL
    simp -implicitDefEqProofs only [go_sem, a_eval_machine_guarded_1, gx, gb1, gb2, gb3, gk, gk0, sk, hbq, hbq2, hO, hW, hL, ri, w2, w4, hlen, n1, tE, ok2, vTwo, vU1]
end
end AC
