import Derived.Test.YtecjccggbbbaaaaGreatKL
import Derived.Test.YtecjccggbbbaaaaGreatKM
set_option linter.unusedVariables false
set_option linter.unusedSimpArgs false
namespace AC
open Go Go.A Go.A.Lex
def touchW (at' c : Int) : List Fz := [.lit (.bool true), .lit (.int .u64 at'), .lit (.int .u8 c)]
def rowC (c : Int) : List C := [.f (.lit (.int .u8 c))]
/-- Where a memory's bytes are. -/
structure RowO (τ : Store) (mid tk rid n : Nat) (bc : C) (rows : List (List C)) : Prop where
  bc : bc = .own rid 1 0 n
  row : τ[rid]? = some (.cells 1 1 rows)
  len : rows.length = n
  one : ∀ e ∈ rows, ∃ c, e = rowC c
  nm : rid ≠ mid
  nt : rid ≠ tk
def rowUp (τ : Store) (rid p : Nat) (rows : List (List C)) (c : Int) : Store := τ.set rid (.cells 1 1 (rows.set p (rowC c)))
theorem ltss_one {rows : List (List C)} (n : Nat) (h : ∀ e ∈ rows, ∃ c, e = rowC c) : C.ltss n rows = true := by
  induction rows with
  | nil => rfl
  | cons e es ih =>
    obtain ⟨c, rfl⟩ := h e List.mem_cons_self
    rw [C.ltss, ih fun x hx => h x (List.mem_cons_of_mem _ hx)]
    rfl
section
variable {τ : Store} {mid tk rid n : Nat} {bc : C} {tr : List (List Fz)} {rows : List (List C)} (M : MemO τ mid tk bc n tr) (W : RowO τ mid tk rid n bc rows)
include M W
omit M in
theorem set_one (p : Nat) (c : Int) : ∀ e ∈ rows.set p (rowC c), ∃ c, e = rowC c := fun e he => by
  rcases List.mem_or_eq_of_mem_set he with h | rfl
  · exact W.one e h
  · exact ⟨c, rfl⟩
theorem rowUp_mem (p : Nat) (c : Int) : MemO (rowUp τ rid p rows c) mid tk bc n tr := by
  refine ⟨by rw [rowUp, List.getElem?_set_ne W.nm]; exact M.hm, by rw [rowUp, List.getElem?_set_ne W.nt]; exact M.ht, M.hl, M.n, M.tr, ?_, M.ne⟩
  unfold Ok
  rw [rowUp, List.length_set]
  exact obs_set _ _ _ (show Ob.lt _ (.cells 1 1 _) = true from ltss_one _ (set_one W p c)) _ M.ok
omit M in
theorem rowUp_row (p : Nat) (c : Int) : RowO (rowUp τ rid p rows c) mid tk rid n bc (rows.set p (rowC c)) := by
  have h := (List.getElem?_eq_some_iff.1 W.row).1
  refine ⟨W.bc, by simp [rowUp, h], by simp [W.len], set_one W p c, W.nm, W.nt⟩
omit M in
theorem memUp_row (tr' : List (List Fz)) : RowO (memUp τ mid tk bc tr') mid tk rid n bc rows := by
  refine ⟨W.bc, ?_, W.len, W.one, W.nm, W.nt⟩
  rw [memUp, List.getElem?_set_ne (fun e => W.nm e.symm), List.getElem?_set_ne (fun e => W.nt e.symm)]
  exact W.row
omit M in
theorem rowUp_app (p : Nat) (c : Int) (r : Store) : rowUp (τ ++ r) rid p rows c = rowUp τ rid p rows c ++ r := by
  rw [rowUp, setApp W.row, rowUp]
omit W in
theorem Write_trap (p : Nat) (hp2 : p < 256) (v : Int) (hn : ¬ (p : Int) + 1 ≤ (n : Int)) : call T F.mem_Mem_Write [.one (cP mid), vU64 p, vI 8, vU1 v] τ = some (vI 8, τ) := by
  rw [call_eq (fn := a_mem_Mem_Write) rfl]
  have hT := There_call M p (by omega)
  rw [decide_eq_false hn, Bool.and_false] at hT
  have hm8 := may8_call
  have gm := fun r => get_low M.hm r
  have gk0 := fun l => get_k0 (rfl : τ.length = τ.length) l
  have w1 : IntKind.u64.wrap 0 = 0 := rfl
  have w2 : IntKind.i64.wrap 0 = 0 := rfl
  have w3 : IntKind.u64.wrap ((p : Int) + 0) = p := by rw [Int.add_zero]; exact wrap_u64 (by omega) (by omega)
  have d1 : Int.tdiv 8 8 = 1 := rfl
  have w4 : IntKind.i64.wrap 1 = 1 := rfl
  have l1 : ((p : Int) < (p : Int)) = False := by simp
  have n11 : ((1 : Nat) : Int) = 1 := rfl
  have n1 : (τ.length ≤ τ.length) = True := by simp
  simp -implicitDefEqProofs only [go_sem] at hT hm8
  simp -implicitDefEqProofs only [go_sem, a_mem_Mem_Write, mem_Mem_Write_l1_eq, mem_Mem_Write_b1, vU1, hm8, hT, w1, w2, w3, w4, d1, Int.zero_mul, l1, n11, n1, gm, gk0]
theorem Write_ok (p : Nat) (hp : p < n) (hp2 : p < 256) (v : Int) (hv : 0 ≤ v ∧ v < 256) (htr : tr.length < 100000) :
    call T F.mem_Mem_Write [.one (cP mid), vU64 p, vI 8, vU1 v] τ = some (vI 0, memUp (rowUp τ rid p rows v) mid tk bc (tr ++ [touchW p v])) := by
  rw [call_eq (fn := a_mem_Mem_Write) rfl]
  have hT := There_call M p (by omega)
  rw [decide_eq_true (show 1 ≤ n by omega), decide_eq_true (show (p : Int) + 1 ≤ n by omega)] at hT
  have hm8 := may8_call
  have hn := M.n
  have gm := fun r => get_low M.hm r
  have hbc := W.bc
  subst hbc
  have hm := M.hm
  obtain ⟨c0, hc0⟩ : ∃ c0, rows[p]? = some (rowC c0) := by
    have hlt : p < rows.length := by rw [W.len]; exact hp
    obtain ⟨c0, h⟩ := W.one rows[p] (List.getElem_mem hlt)
    exact ⟨c0, by rw [List.getElem?_eq_getElem hlt, h]⟩
  unfold rowC at hc0
  have hrow := W.row
  have M1 := rowUp_mem M W p v
  have hm1 := M1.hm
  have ht1 := M1.ht
  obtain ⟨τ1, hτ1⟩ : ∃ t : Store, t = rowUp τ rid p rows v := ⟨_, rfl⟩
  have s1 : τ.set rid (.cells 1 1 (rows.set p [.f (.lit (.int .u8 v))])) = τ1 := hτ1.symm
  rw [← hτ1] at hm1 ht1 M1 ⊢
  obtain ⟨τ2, hτ2⟩ : ∃ t : Store, t = τ1.set tk (.tok 3 [tr.length + 1]) := ⟨_, rfl⟩
  have e2 : τ2[mid]? = some (.cells 0 2 [[.own rid 1 0 n, .ap tk 0 tr]]) := by rw [hτ2, List.getElem?_set_ne (fun e => M.ne e.symm)]; exact hm1
  have s2 : τ1.set tk (.tok 3 [tr.length + 1]) = τ2 := hτ2.symm
  obtain ⟨τ3, hτ3⟩ : ∃ t : Store, t = memUp τ1 mid tk (.own rid 1 0 n) (tr ++ [touchW p v]) := ⟨_, rfl⟩
  have s3 : τ2.set mid (.cells 0 2 [[.own rid 1 0 n, .ap tk 0 (tr ++ [[.lit (.bool true), .lit (.int .u64 p), .lit (.int .u8 v)]])]]) = τ3 := by
    rw [hτ3, memUp, hτ2, List.length_append]
    rfl
  have hl1 : τ1.length = τ.length := by rw [hτ1, rowUp, List.length_set]
  have hl3 : τ3.length = τ.length := by rw [hτ3]; simp [memUp, hl1]
  have w1 : IntKind.u64.wrap 0 = 0 := rfl
  have w2 : IntKind.i64.wrap 0 = 0 := rfl
  have w3 : IntKind.u64.wrap ((p : Int) + 0) = p := by rw [Int.add_zero]; exact wrap_u64 (by omega) (by omega)
  have d1 : Int.tdiv 8 8 = 1 := rfl
  have w4 : IntKind.i64.wrap 1 = 1 := rfl
  have m0 : IntKind.i64.wrap (8 * 0) = 0 := rfl
  have w8 : IntKind.u8.wrap (v.fdiv (2 ^ min 0 64)) = v := by
    show IntKind.u8.wrap (v.fdiv 1) = v
    rw [Int.fdiv_one]
    unfold IntKind.wrap IntKind.bits IntKind.signed
    simp
    omega
  have l1 : ((p : Int) < (p : Int)) = False := by simp
  have l2 : ((p : Int) < (n : Int)) = True := by simp; omega
  have p0 : (0 ≤ (p : Int)) = True := by simp
  have n11 : ((1 : Nat) : Int) = 1 := rfl
  have hlim : tr.length + 1 ≤ LIM := by have := M.tr; unfold LIM; omega
  have n1 : (τ.length ≤ τ.length) = True := by simp
  have hb64 : IntKind.u64.bits = 64 := rfl
  rw [← hτ3]
  simp -implicitDefEqProofs only [go_sem] at hT hm8
  simp -implicitDefEqProofs only [go_sem, a_mem_Mem_Write, mem_Mem_Write_l1_eq, mem_Mem_Write_b1, mem_Mem_Write_l0_eq, mem_Mem_Write_b0, vU1, hm8, hT, w1, w2, w3, w4, w8, d1, m0, Int.zero_mul, Int.mul_zero, l1, l2, p0, n11, n1, hb64, hm, hrow, hc0, s1, hm1, ht1, s2, e2, s3, hlim, hl1, hl3, Int.toNat_natCast]
end
end AC

namespace AC
open Go Go.A Go.A.Lex
/-- What one byte's writing comes to. -/
structure Wr (τ : Store) (mid tk : Nat) (bc : C) (n : Nat) (tr : List (List Fz)) (p : Nat) (v : Int) (q : Bool) (τ' : Store) : Prop where
  small : p < 256
  val : 0 ≤ v ∧ v < 256
  short : tr.length < 100000
  no : q = false → ¬ (p : Int) + 1 ≤ n ∧ τ' = τ
  yes : q = true → p < n ∧ ∃ rid rows, RowO τ mid tk rid n bc rows ∧ τ' = memUp (rowUp τ rid p rows v) mid tk bc (tr ++ [touchW p v])
section
variable {τ τ' : Store} {mid tk n : Nat} {bc : C} {tr : List (List Fz)} (M : MemO τ mid tk bc n tr) {p : Nat} {v : Int} {q : Bool} (B : Wr τ mid tk bc n tr p v q τ')
include M B
theorem Wr.app (r : Store) : Wr (τ ++ r) mid tk bc n tr p v q (τ' ++ r) := by
  refine ⟨B.small, B.val, B.short, fun h => ?_, fun h => ?_⟩
  · obtain ⟨h1, rfl⟩ := B.no h
    exact ⟨h1, rfl⟩
  · obtain ⟨h1, rid, rows, W, rfl⟩ := B.yes h
    refine ⟨h1, rid, rows, ⟨W.bc, get_low W.row r, W.len, W.one, W.nm, W.nt⟩, ?_⟩
    rw [rowUp_app W, memUp_app (rowUp_mem M W p v)]
omit M in
theorem Wr.length : τ'.length = τ.length := by
  cases q with
  | false => rw [(B.no rfl).2]
  | true =>
    obtain ⟨_, _, _, _, rfl⟩ := B.yes rfl
    simp [memUp, rowUp]
theorem Wr.mem : MemO τ' mid tk bc n (if q = true then tr ++ [touchW p v] else tr) := by
  have hs := B.short
  cases q with
  | false => rw [(B.no rfl).2]; exact M
  | true =>
    obtain ⟨_, _, _, W, rfl⟩ := B.yes rfl
    exact (rowUp_mem M W p v).up _ (by simp; omega)
theorem Wr.ok : Ok τ' := (B.mem M).ok
abbrev vW (q : Bool) : A.V := vI (if q = true then 0 else 8)
theorem Write_call : call T F.mem_Mem_Write [.one (cP mid), vU64 p, vI 8, vU1 v] τ = some (vW q, τ') := by
  cases q with
  | false =>
    obtain ⟨h1, rfl⟩ := B.no rfl
    exact Write_trap M p B.small v h1
  | true =>
    obtain ⟨h1, rid, rows, W, rfl⟩ := B.yes rfl
    exact Write_ok M W p h1 B.small v B.val B.short
end
section
variable {τ τ' : Store} {x m mid tk n : Nat} {f : PFunc} {fuel : Int} {V : UMap} {s : Int} {bc : C} {tr : List (List Fz)} (h : Mach τ x m f (cP mid) fuel V s) (M : MemO τ mid tk bc n tr)
include h M
theorem em_store_call (o : POp) (a b : Int) (ha : o.args = [a, b]) (p : Nat) (hp : getM a V = some (p : Int)) (v : Int) (hv : getM b V = some v) (hb : o.bits = 8) (q : Bool) (B : Wr τ mid tk bc n tr p v q τ') (hx' : τ'[x]? = some (obM f (cP mid) m fuel s)) :
    call T F.eval_machine_store [.one (cP x), vOp o] τ = some (.tup [vL [], vW q], τ') := by
  rw [call_eq (fn := a_eval_machine_store) rfl]
  obtain ⟨okd, obt, oln, ods, oar, oim⟩ := o
  simp only at ha hb
  subst hb ha
  have hr : Obs.lt (τ.length + 1) [Ob.cells 0 6 [cOp ⟨okd, 8, oln, ods, [a, b], oim⟩]] = true := rfl
  have hO := em_one_call (h.app [.cells 0 6 [cOp ⟨okd, 8, oln, ods, [a, b], oim⟩]] hr) ⟨okd, 8, oln, ods, [a, b], oim⟩ 0 a p rfl hp
  have hR := Write_call (M.app [.cells 0 6 [cOp ⟨okd, 8, oln, ods, [a, b], oim⟩]] hr) (B.app M [.cells 0 6 [cOp ⟨okd, 8, oln, ods, [a, b], oim⟩]])
  have gx := fun r => get_low h.hx r
  have gm := fun r => get_low h.hm r
  have gx' := fun r => get_low hx' r
  have gk0 := fun l => get_k0 (rfl : τ.length = τ.length) l
  have gE := fun l => get_k0 B.length l
  have tE := fun l => take_k B.length l 0
  have ok2 : Obs.lt τ.length τ' = true := by
    have := B.ok M
    unfold Ok at this
    rwa [B.length] at this
  have n1 : (τ.length + 1 ≤ τ.length) = False := by simp
  have hlen := B.length
  have hbq : Fz.beqs [[Fz.lit (.int .i64 a)], [.lit (.int .i64 b)]] [[.lit (.int .i64 a)], [.lit (.int .i64 b)]] = true := by simp [Fz.beqs, Fz.beqR, Fz.beq, Value.beq]
  have hbq2 : Fz.beqs [[Fz.lit (.int .u64 v)]] [[.lit (.int .u64 v)]] = true := by simp [Fz.beqs, Fz.beqR, Fz.beq, Value.beq]
  have hgv := mget_u b V
  rw [hv] at hgv
  simp only [Nat.add_zero, List.take_zero, List.append_nil] at tE
  simp -implicitDefEqProofs only [go_sem, vU1, vW, List.map_cons, List.map_nil, ri] at hO hR hgv
  simp -implicitDefEqProofs only [go_sem, a_eval_machine_store, gx, gm, gx', gk0, gE, hO, hR, hgv, hlen, n1, tE, ok2, List.map_cons, List.map_nil, ri, hbq, hbq2]
end
end AC

namespace AC
open Go Go.A Go.A.Lex
section
variable {σ σ' : Store} {x m : Nat} {f : PFunc} {cm : C} {fuel : Int} {V0 V1 : UMap} {s0 s1 : Int} (h : Mach σ x m f cm fuel V0 s0) (h' : Mach σ' x m f cm fuel V1 s1) (hlen : σ'.length = σ.length)
variable (b : PBlock) (hb : okB b) (U : UMap) (s : Int) (hs : 0 ≤ s ∧ s < 1152921504606846976) (hsf : ¬ s = fuel) (k : Nat) (hk : k < b.ops.length)
variable (g : Nat) (first caps : List C) (hg : mget b.ops[k].kind (allE x σ.length) = some (.one (.fn g first caps))) (a : A.V) (ha : A.V.lt σ.length a = true)
include h h' hlen hb hs hsf hg ha
theorem l0_val (hdst : 0 < b.ops[k].dst) (v : Int) (hc : call T g (first.map A.V.one ++ ([vOp b.ops[k]] ++ caps.map A.V.one)) (stE σ x m f cm fuel U (s + 1) ++ tailO x σ.length b [.cells 0 6 [cOp b.ops[k]]]) = some (vTwo (some v), stE σ' x m f cm fuel U (s + 1) ++ tailO x σ.length b [.cells 0 6 [cOp b.ops[k]]])) a1 a2 a5 a7 a8 a9 a13 a14 a15 a16 a17 a18 a19 :
    exec T eval_machine_run_l0 ⟨[.one (cP x), a1, a2, .one (.map σ.length), a, a5, .one (cP (σ.length + 10)), a7, a8, a9, vL (b.ops.map ro), vI b.ops.length, vI k, a13, a14, a15, a16, a17, a18, a19], stE σ x m f cm fuel U s ++ tailO x σ.length b [], σ.length, σ.length⟩ =
      exec T eval_machine_run_l0 ⟨[.one (cP x), vU, vU, .one (.map σ.length), a, vU, .one (cP (σ.length + 10)), vU, vU, vU, vL (b.ops.map ro), vI b.ops.length, vI ((k + 1 : Nat) : Int), vU, vU, vU, vU, vU, vU, vU], stE σ' x m f cm fuel (putM b.ops[k].dst v U) (s + 1) ++ tailO x σ.length b [], σ.length, σ.length⟩ := by
  have hx := h.lx
  have hm := h.lm
  have hx1 : ∀ k, (x < σ.length + k) = True := fun k => by simp; omega
  have gk := fun V s l k => get_k (stE_length (σ := σ) (x := x) (m := m) (f := f) (cm := cm) (fuel := fuel) V s) l k
  have gk0 := fun V s l => get_k0 (stE_length (σ := σ) (x := x) (m := m) (f := f) (cm := cm) (fuel := fuel) V s) l
  have sk := fun V s l k o => set_k (stE_length (σ := σ) (x := x) (m := m) (f := f) (cm := cm) (fuel := fuel) V s) l k o
  have tk := fun V s l k => take_k (stE_length (σ := σ) (x := x) (m := m) (f := f) (cm := cm) (fuel := fuel) V s) l k
  have hlt : ∀ j k, j < k → (σ.length + j < σ.length + k) = True := fun j k hj => by simp; omega
  have va : ∀ k, V.lt (σ.length + k) a = true := fun k => vlt_mono (Nat.le_add_right _ _) _ ha
  have c0 : ∀ k, (σ.length < σ.length + (k + 1)) = True := fun k => by simp
  have p1 := hlt 1 11 (by omega)
  have p2 := hlt 2 11 (by omega)
  have p3 := hlt 3 11 (by omega)
  have p4 := hlt 4 11 (by omega)
  have p5 := hlt 5 11 (by omega)
  have p6 := hlt 6 11 (by omega)
  have p7 := hlt 7 11 (by omega)
  have p8 := hlt 8 11 (by omega)
  have p9 := hlt 9 11 (by omega)
  have p10 := hlt 10 11 (by omega)
  have p0 : (σ.length < σ.length + 11) = True := by simp
  have lA := allE_lt h 11 (by omega)
  have gx' := fun V s r => get_low (h'.to V s).hx r
  have gm' := fun V s r => get_low (h'.to V s).hm r
  have hl' : ∀ V s, (stE σ' x m f cm fuel V s).length = σ.length := fun V s => by rw [stE_length, hlen]
  have gk' := fun V s l k => get_k (hl' V s) l k
  have tk' := fun V s l k => take_k (hl' V s) l k
  have okS' : ∀ V s k, Obs.lt (σ.length + k) (stE σ' x m f cm fuel V s) = true := fun V s k => by
    have := Ok.up (h'.to V s).ok k
    rwa [stE_length, hlen] at this
  have hset : ∀ V' l, (stE σ' x m f cm fuel U (s + 1) ++ l).set m (.mp (encM vU1 V')) = stE σ' x m f cm fuel V' (s + 1) ++ l := fun V' l => by
    rw [setApp (h'.to U (s + 1)).hm, (h'.to U (s + 1)).setm, stE_stE h']
  have hstep := em_step_call (mach_tail h b [.cells 0 6 [cOp b.ops[k]]] (by simp -implicitDefEqProofs only [go_sem]) U s) ⟨hs.1, by omega⟩
  rw [stF_step h, if_neg hsf] at hstep
  have n11 : (σ.length + 12 ≤ σ.length + 11) = False := by simp
  rw [eval_machine_run_l0_eq, eval_machine_run_b0]
  simp -implicitDefEqProofs only [go_sem, vTwo, vU1, tailO] at hstep hc
  simp -implicitDefEqProofs only [go_sem, ilt hk, getr hk, ro, stE_length, gk, gk0, sk, tk, hstep, hg, hc, eq_true hdst, gx', gm', gk', tk', hl', okS', mput_u, hset, n11, hx1, va, c0, p0, p1, p2, p3, p4, p5, p6, p7, p8, p9, p10, lA, wrap_succ hk hb.ops, tailO]
theorem l0_nod (hdst : ¬ 0 < b.ops[k].dst) (ys : List (List Fz)) (hc : call T g (first.map A.V.one ++ ([vOp b.ops[k]] ++ caps.map A.V.one)) (stE σ x m f cm fuel U (s + 1) ++ tailO x σ.length b [.cells 0 6 [cOp b.ops[k]]]) = some (.tup [vL ys, vI 0], stE σ' x m f cm fuel U (s + 1) ++ tailO x σ.length b [.cells 0 6 [cOp b.ops[k]]])) a1 a2 a5 a7 a8 a9 a13 a14 a15 a16 a17 a18 a19 :
    exec T eval_machine_run_l0 ⟨[.one (cP x), a1, a2, .one (.map σ.length), a, a5, .one (cP (σ.length + 10)), a7, a8, a9, vL (b.ops.map ro), vI b.ops.length, vI k, a13, a14, a15, a16, a17, a18, a19], stE σ x m f cm fuel U s ++ tailO x σ.length b [], σ.length, σ.length⟩ =
      exec T eval_machine_run_l0 ⟨[.one (cP x), vU, vU, .one (.map σ.length), a, vU, .one (cP (σ.length + 10)), vU, vU, vU, vL (b.ops.map ro), vI b.ops.length, vI ((k + 1 : Nat) : Int), vU, vU, vU, vU, vU, vU, vU], stE σ' x m f cm fuel U (s + 1) ++ tailO x σ.length b [], σ.length, σ.length⟩ := by
  have hx := h.lx
  have hm := h.lm
  have hx1 : ∀ k, (x < σ.length + k) = True := fun k => by simp; omega
  have gk := fun V s l k => get_k (stE_length (σ := σ) (x := x) (m := m) (f := f) (cm := cm) (fuel := fuel) V s) l k
  have gk0 := fun V s l => get_k0 (stE_length (σ := σ) (x := x) (m := m) (f := f) (cm := cm) (fuel := fuel) V s) l
  have sk := fun V s l k o => set_k (stE_length (σ := σ) (x := x) (m := m) (f := f) (cm := cm) (fuel := fuel) V s) l k o
  have tk := fun V s l k => take_k (stE_length (σ := σ) (x := x) (m := m) (f := f) (cm := cm) (fuel := fuel) V s) l k
  have hlt : ∀ j k, j < k → (σ.length + j < σ.length + k) = True := fun j k hj => by simp; omega
  have va : ∀ k, V.lt (σ.length + k) a = true := fun k => vlt_mono (Nat.le_add_right _ _) _ ha
  have c0 : ∀ k, (σ.length < σ.length + (k + 1)) = True := fun k => by simp
  have p1 := hlt 1 11 (by omega)
  have p2 := hlt 2 11 (by omega)
  have p3 := hlt 3 11 (by omega)
  have p4 := hlt 4 11 (by omega)
  have p5 := hlt 5 11 (by omega)
  have p6 := hlt 6 11 (by omega)
  have p7 := hlt 7 11 (by omega)
  have p8 := hlt 8 11 (by omega)
  have p9 := hlt 9 11 (by omega)
  have p10 := hlt 10 11 (by omega)
  have p0 : (σ.length < σ.length + 11) = True := by simp
  have lA := allE_lt h 11 (by omega)
  have gx' := fun V s r => get_low (h'.to V s).hx r
  have gm' := fun V s r => get_low (h'.to V s).hm r
  have hl' : ∀ V s, (stE σ' x m f cm fuel V s).length = σ.length := fun V s => by rw [stE_length, hlen]
  have gk' := fun V s l k => get_k (hl' V s) l k
  have tk' := fun V s l k => take_k (hl' V s) l k
  have okS' : ∀ V s k, Obs.lt (σ.length + k) (stE σ' x m f cm fuel V s) = true := fun V s k => by
    have := Ok.up (h'.to V s).ok k
    rwa [stE_length, hlen] at this
  have hset : ∀ V' l, (stE σ' x m f cm fuel U (s + 1) ++ l).set m (.mp (encM vU1 V')) = stE σ' x m f cm fuel V' (s + 1) ++ l := fun V' l => by
    rw [setApp (h'.to U (s + 1)).hm, (h'.to U (s + 1)).setm, stE_stE h']
  have hstep := em_step_call (mach_tail h b [.cells 0 6 [cOp b.ops[k]]] (by simp -implicitDefEqProofs only [go_sem]) U s) ⟨hs.1, by omega⟩
  rw [stF_step h, if_neg hsf] at hstep
  have n11 : (σ.length + 12 ≤ σ.length + 11) = False := by simp
  rw [eval_machine_run_l0_eq, eval_machine_run_b0]
  simp -implicitDefEqProofs only [go_sem, tailO] at hstep hc
  simp -implicitDefEqProofs only [go_sem, ilt hk, getr hk, ro, stE_length, gk, gk0, sk, tk, hstep, hg, hc, hdst, gx', gm', gk', tk', hl', okS', n11, hx1, va, c0, p0, p1, p2, p3, p4, p5, p6, p7, p8, p9, p10, lA, wrap_succ hk hb.ops, tailO]
omit h' hlen hb ha in
theorem l0_stop (ys : List (List Fz)) (hc : call T g (first.map A.V.one ++ ([vOp b.ops[k]] ++ caps.map A.V.one)) (stE σ x m f cm fuel U (s + 1) ++ tailO x σ.length b [.cells 0 6 [cOp b.ops[k]]]) = some (.tup [vL ys, vI 8], stE σ' x m f cm fuel U (s + 1) ++ tailO x σ.length b [.cells 0 6 [cOp b.ops[k]]])) a1 a2 a5 a7 a8 a9 a13 a14 a15 a16 a17 a18 a19 :
    exec T eval_machine_run_l0 ⟨[.one (cP x), a1, a2, .one (.map σ.length), a, a5, .one (cP (σ.length + 10)), a7, a8, a9, vL (b.ops.map ro), vI b.ops.length, vI k, a13, a14, a15, a16, a17, a18, a19], stE σ x m f cm fuel U s ++ tailO x σ.length b [], σ.length, σ.length⟩ =
      some (.ret, ⟨[vU, vI 8, vU64 0, vU, vU, vU, vU, vU, vU, vU, vU, vU, vU, vU, vU, vU, vU, vU, vU, vU], stE σ' x m f cm fuel U (s + 1) ++ tailO x σ.length b [.cells 0 6 [cOp b.ops[k]]], σ.length, σ.length⟩) := by
  have gk := fun V s l k => get_k (stE_length (σ := σ) (x := x) (m := m) (f := f) (cm := cm) (fuel := fuel) V s) l k
  have gk0 := fun V s l => get_k0 (stE_length (σ := σ) (x := x) (m := m) (f := f) (cm := cm) (fuel := fuel) V s) l
  have sk := fun V s l k o => set_k (stE_length (σ := σ) (x := x) (m := m) (f := f) (cm := cm) (fuel := fuel) V s) l k o
  have tk := fun V s l k => take_k (stE_length (σ := σ) (x := x) (m := m) (f := f) (cm := cm) (fuel := fuel) V s) l k
  have hstep := em_step_call (mach_tail h b [.cells 0 6 [cOp b.ops[k]]] (by simp -implicitDefEqProofs only [go_sem]) U s) ⟨hs.1, by omega⟩
  rw [stF_step h, if_neg hsf] at hstep
  rw [eval_machine_run_l0_eq, eval_machine_run_b0]
  simp -implicitDefEqProofs only [go_sem, tailO] at hstep hc
  simp -implicitDefEqProofs only [go_sem, ilt hk, getr hk, ro, stE_length, gk, gk0, sk, tk, hstep, hg, hc, tailO]
omit h h' hb hs hsf hg ha in
theorem l0_end (hl : k + 1 = b.ops.length) (e : Int) (he : e = (k : Int) + 1) a1 a2 a5 a7 a8 a9 a13 a14 a15 a16 a17 a18 a19 : exec T eval_machine_run_l0 ⟨[.one (cP x), a1, a2, .one (.map σ.length), a, a5, .one (cP (σ.length + 10)), a7, a8, a9, vL (b.ops.map ro), vI b.ops.length, vI e, a13, a14, a15, a16, a17, a18, a19], stE σ' x m f cm fuel U s ++ tailO x σ.length b [], σ.length, σ.length⟩ =
    some (.exit 0, ⟨[.one (cP x), vU, vU, .one (.map σ.length), a, vU, .one (cP (σ.length + 10)), vU, vU, vU, vU, vU, vU, vU, vU, vU, vU, vU, vU, vU], stE σ' x m f cm fuel U s ++ tailO x σ.length b [], σ.length, σ.length⟩) := by
  have hl' : ∀ V s, (stE σ' x m f cm fuel V s).length = σ.length := fun V s => by rw [stE_length, hlen]
  have n11 : (σ.length + 11 ≤ σ.length + 11) = True := by simp
  have hll : ((b.ops.length : Nat) : Int) = (k : Int) + 1 := by omega
  subst he
  rw [eval_machine_run_l0_eq, eval_machine_run_b0]
  simp -implicitDefEqProofs only [go_sem, hll, Int.lt_irrefl, hl', n11, tailO]
end
end AC

namespace AC
open Go Go.A Go.A.Lex
section
variable {σ σ' : Store} {x m : Nat} {f : PFunc} {cm : C} {fuel : Int} {V0 V1 : UMap} {s0 s1 : Int} (h : Mach σ x m f cm fuel V0 s0) (h' : Mach σ' x m f cm fuel V1 s1) (hlen : σ'.length = σ.length) (hf : OkRun f) (hfu : fuel < 1152921504606846976)
include h h' hlen hf hfu
theorem run_trapM (b : PBlock) (at' fr : Nat) (hb : f.blocks[at']? = some b) (U0 U1 U2 : UMap) (s s2 : Int) (hs : 0 ≤ s2 ∧ s2 ≤ fuel) (hP : phisV U0 fr b = some U1) (hl : ∀ a1 a2 a5 a7 a8 a9 a13 a14 a15 a16 a17 a18 a19, exec T eval_machine_run_l0 ⟨[.one (cP x), a1, a2, .one (.map σ.length), vI at', a5, .one (cP (σ.length + 10)), a7, a8, a9, vL (b.ops.map ro), vI b.ops.length, vI 0, a13, a14, a15, a16, a17, a18, a19], stE σ x m f cm fuel U1 s ++ tailO x σ.length b [], σ.length, σ.length⟩ =
      some (.exit 0, ⟨[.one (cP x), vU, vU, .one (.map σ.length), vI at', vU, .one (cP (σ.length + 10)), vU, vU, vU, vU, vU, vU, vU, vU, vU, vU, vU, vU, vU], stE σ' x m f cm fuel U2 s2 ++ tailO x σ.length b [], σ.length, σ.length⟩))
    (c1 : ¬ s2 = fuel) (c3 : b.kind = 3) (a1 a2 a6 a7 a8 a9 a10 a11 a12 a13 a14 a15 a16 a17 a18 a19 : A.V) :
    exec T runRest ⟨[.one (cP x), a1, a2, .one (.map σ.length), vI at', vI fr, a6, a7, a8, a9, a10, a11, a12, a13, a14, a15, a16, a17, a18, a19], stE σ x m f cm fuel U0 s ++ allO x σ.length, σ.length, σ.length⟩ =
      some (.ret, ⟨[vU, vI 8, vU64 0, vU, vU, vU, vU, vU, vU, vU, vU, vU, vU, vU, vU, vU, vU, vU, vU, vU], stE σ' x m f cm fuel U2 (s2 + 1) ++ tailO x σ.length b [], σ.length, σ.length⟩) := by
  have hlt : at' < f.blocks.length := (List.getElem?_eq_some_iff.1 hb).1
  have hbm : b ∈ f.blocks := List.mem_of_getElem? hb
  have hbk : (f.blocks.map rb)[at']? = some (rb b) := by simp [hb]
  have okb := hf.ok.block b hbm
  have gk := fun V s l k => get_k (stE_length (σ := σ) (x := x) (m := m) (f := f) (cm := cm) (fuel := fuel) V s) l k
  have sk := fun V s l k o => set_k (stE_length (σ := σ) (x := x) (m := m) (f := f) (cm := cm) (fuel := fuel) V s) l k o
  have hl' : ∀ V s, (stE σ' x m f cm fuel V s).length = σ.length := fun V s => by rw [stE_length, hlen]
  have gk' := fun V s l k => get_k (hl' V s) l k
  have tk' := fun V s l k => take_k (hl' V s) l k
  have gx' := fun V s r => get_low (h'.to V s).hx r
  have gm' := fun V s r => get_low (h'.to V s).hm r
  have okS' : ∀ V s k, Obs.lt (σ.length + k) (stE σ' x m f cm fuel V s) = true := fun V s k => by
    have := Ok.up (h'.to V s).ok k
    rwa [stE_length, hlen] at this
  have gx := fun V s r => get_low (h.to V s).hx r
  have gm := fun V s r => get_low (h.to V s).hm r
  have mp := mach_tail h b [] rfl U0 s
  have hph := em_phis_call mp b okb fr (hf.phis b hbm) (hf.src b hbm) U1 hP
  rw [stF_step h] at hph
  have hstep := em_step_call (mach_tail h' b [] rfl U2 s2) ⟨by omega, by omega⟩
  rw [stF_step h'] at hstep
  rw [if_neg c1] at hstep
  simp only [hlen] at hstep
  simp -implicitDefEqProofs only [go_sem] at hph hl hstep
  simp -implicitDefEqProofs only [go_sem, runRest, eval_machine_run_s1, Code.p2, gx, hbk, rb, gk, sk, stE_length, gk', tk', gx', gm', hl', okS', hph, hl, hstep, eq_true c3]
end
abbrev mS (σ : Store) (f : PFunc) (mid : Nat) (U : UMap) (s : Int) : Store := stR σ f mid 9 0 0 0 U s []
theorem mS_stE (σ : Store) (f : PFunc) (mid : Nat) (M U : UMap) (s : Int) : stE (mS σ f mid M 0) (σ.length + 3) (σ.length + 2) f (cP mid) 9 U s = mS σ f mid U s := by
  have sk := fun l k o => set_k (rfl : σ.length = σ.length) l k o
  rw [stE, sk, sk]
  rfl
theorem Ok.tail {a b : Store} (h : Ok (a ++ b)) : Obs.lt (a.length + b.length) b = true := by
  have h := Ok.at h
  rw [List.length_append, obs_lt_app, Bool.and_eq_true] at h
  exact h.2
abbrev wS (σ : Store) (f : PFunc) (mid : Nat) (M U : UMap) (s : Int) (b : PBlock) (o : POp) : Store := stE (mS σ f mid M 0) (σ.length + 3) (σ.length + 2) f (cP mid) 9 U s ++ tailO (σ.length + 3) (mS σ f mid M 0).length b [.cells 0 6 [cOp o]]
abbrev rS (n : Nat) (f : PFunc) (mid : Nat) (U : UMap) (s : Int) (b : PBlock) (o : POp) : Store := (.cells 0 3 [cFunc f] :: bR 0 0 0 :: .mp (encM vU1 U) :: obM f (cP mid) (n + 2) 9 s :: []) ++ tailO (n + 3) (n + 4) b [.cells 0 6 [cOp o]]
theorem mS_len (σ : Store) (f : PFunc) (mid : Nat) (M : UMap) (s : Int) : (mS σ f mid M s).length = σ.length + 4 := by simp
theorem wS_eq (σ : Store) (f : PFunc) (mid : Nat) (M U : UMap) (s : Int) (b : PBlock) (o : POp) : wS σ f mid M U s b o = σ ++ rS σ.length f mid U s b o := by
  unfold wS
  rw [mS_stE, mS_len]
  exact List.append_assoc _ _ _
section
variable {σ σ' : Store} {mid tk n : Nat} {bc : C} {tr : List (List Fz)} (M0 : MemO σ mid tk bc n tr)
include M0
theorem mem_mid : mid < σ.length := (List.getElem?_eq_some_iff.1 M0.hm).1
theorem mS_mach (f : PFunc) (M : UMap) : Mach (mS σ f mid M 0) (σ.length + 3) (σ.length + 2) f (cP mid) 9 M 0 := stR_mach M0.ok f mid (mem_mid M0) 9 M
theorem w_mach (f : PFunc) (M U : UMap) (s : Int) (b : PBlock) (o : POp) : Mach (wS σ f mid M U s b o) (σ.length + 3) (σ.length + 2) f (cP mid) 9 U s :=
  mach_tail (mS_mach M0 f M) b [.cells 0 6 [cOp o]] (by simp -implicitDefEqProofs only [go_sem]) U s
theorem w_mem (f : PFunc) (M U : UMap) (s : Int) (b : PBlock) (o : POp) : MemO (wS σ f mid M U s b o) mid tk bc n tr := by
  have h := (w_mach M0 f M U s b o).ok
  rw [wS_eq] at h ⊢
  exact M0.app _ h.tail
end
section
variable {σ σ' : Store} {mid : Nat} (hlen : σ'.length = σ.length)
include hlen
theorem mS_mach' (hσ' : Ok σ') (hmid : mid < σ.length) (f : PFunc) (M : UMap) : Mach (mS σ' f mid M 0) (σ.length + 3) (σ.length + 2) f (cP mid) 9 M 0 := by
  have := stR_mach hσ' f mid (by rw [hlen]; exact hmid) 9 M
  rwa [hlen] at this
theorem mS_stE' (f : PFunc) (M U : UMap) (s : Int) : stE (mS σ' f mid M 0) (σ.length + 3) (σ.length + 2) f (cP mid) 9 U s = mS σ' f mid U s := by
  have := mS_stE σ' f mid M U s
  rwa [hlen] at this
theorem wS_eq' (f : PFunc) (M U : UMap) (s : Int) (b : PBlock) (o : POp) : stE (mS σ' f mid M 0) (σ.length + 3) (σ.length + 2) f (cP mid) 9 U s ++ tailO (σ.length + 3) (mS σ f mid M 0).length b [.cells 0 6 [cOp o]] = σ' ++ rS σ.length f mid U s b o := by
  rw [mS_stE' hlen, mS_len]
  show (σ' ++ (.cells 0 3 [cFunc f] :: bR 0 0 0 :: .mp (encM vU1 U) :: obM f (cP mid) (σ'.length + 2) 9 s :: [])) ++ _ = _
  rw [hlen]
  exact List.append_assoc _ _ _
end
section
variable {σ σ' : Store} {mid tk n p : Nat} {bc : C} {tr : List (List Fz)} {v : Int} {q : Bool} (M0 : MemO σ mid tk bc n tr) (B : Wr σ mid tk bc n tr p v q σ')
include M0 B
theorem w_wr (f : PFunc) (M U : UMap) (s : Int) (b : PBlock) (o : POp) : Wr (wS σ f mid M U s b o) mid tk bc n tr p v q (stE (mS σ' f mid M 0) (σ.length + 3) (σ.length + 2) f (cP mid) 9 U s ++ tailO (σ.length + 3) (mS σ f mid M 0).length b [.cells 0 6 [cOp o]]) := by
  rw [wS_eq, wS_eq' B.length]
  exact B.app M0 _
theorem way_store (f : PFunc) (M U : UMap) (s : Int) (b : PBlock) (o : POp) (a c : Int) (ha : o.args = [a, c]) (hp : getM a U = some (p : Int)) (hv : getM c U = some v) (hb : o.bits = 8) :
    call T F.eval_machine_store ([cP (σ.length + 3)].map A.V.one ++ ([vOp o] ++ ([] : List C).map A.V.one)) (wS σ f mid M U s b o) = some (.tup [vL [], vW q], stE (mS σ' f mid M 0) (σ.length + 3) (σ.length + 2) f (cP mid) 9 U s ++ tailO (σ.length + 3) (mS σ f mid M 0).length b [.cells 0 6 [cOp o]]) := by
  refine em_store_call (w_mach M0 f M U s b o) (w_mem M0 f M U s b o) o a c ha p hp v hv hb q (w_wr M0 B f M U s b o) ?_
  rw [wS_eq' B.length, get_k B.length]
  rfl
end
end AC

namespace AC
open Go Go.A Go.A.Lex
theorem call_extN {n : Nat} {g : List A.V → Store → Option (A.V × Store)} (h : T n = some (.ext g)) (args : List A.V) (σ : Store) : call T n args σ = g args σ := by
  simp only [call, callW, h]
def ub (x : Int) : List Fz := [.lit (.int .u8 x)]
def cb (x : Int) : List C := [.f (.lit (.int .u8 x))]
theorem ub_cb (l : List Int) : (l.map ub).map (fun e => e.map C.f) = l.map cb := by
  rw [List.map_map]
  rfl
theorem shifts_cb (k : Nat) (l : List Int) : (l.map cb).map (C.shifts k) = l.map cb := by
  rw [List.map_map]
  rfl
theorem okSz_ub (l : List Int) : okSz 1 (l.map ub) = true := by
  induction l with
  | nil => rfl
  | cons x l ih => rw [List.map_cons, okSz, ih]; rfl
theorem frzRows_cb (l : List Int) : frzRows (l.map cb) = some (l.map ub) := by
  induction l with
  | nil => rfl
  | cons x l ih => rw [List.map_cons, frzRows, ih]; rfl
theorem lt_cb (n : Nat) (l : List Int) : C.ltss n (l.map cb) = true := by
  induction l with
  | nil => rfl
  | cons x l ih => rw [List.map_cons, C.ltss, ih]; rfl
theorem bytesOf_ub (l : List Int) : bytesOf (l.map ub) = some l := by
  induction l with
  | nil => rfl
  | cons x l ih => rw [List.map_cons, bytesOf, ih]; rfl
theorem New_nil : call T F.mem_New [vL []] [] = some (.tup [.one (cP 2), vI 0], [.tok 1 [0], .tok 3 [0], .cells 0 2 [[.f (.sl []), .ap 1 0 []]]]) := by
  rw [call_eq (fn := a_mem_New) rfl]
  have hb : call T F.bytes_Clone [vL []] [] = some (vL [], []) := by
    rw [call_extN (g := extBytesG 1) rfl]
    simp [extBytesG, extBytes, okSz, LIM]
  simp -implicitDefEqProofs only [go_sem] at hb
  simp -implicitDefEqProofs only [go_sem, a_mem_New, hb]
theorem New_cons (x : Int) (l : List Int) (hl : l.length < 4096) : call T F.mem_New [vL ((x :: l).map ub)] [] = some (.tup [.one (cP 3), vI 0], [.cells 1 1 ((x :: l).map cb), .tok 1 [0], .tok 3 [0], .cells 0 2 [[.own 0 1 0 (l.length + 1), .ap 2 0 []]]]) := by
  rw [call_eq (fn := a_mem_New) rfl]
  have hb : call T F.bytes_Clone [vL ((x :: l).map ub)] [] = some (.one (.own 0 1 0 (l.length + 1)), [.cells 1 1 ((x :: l).map cb)]) := by
    rw [call_extN (g := extBytesG 1) rfl]
    have h2 : ((x :: l).map ub).length ≤ LIM := by simp [LIM]; omega
    unfold extBytesG extBytes
    simp only []
    rw [if_pos ⟨okSz_ub _, h2⟩, if_neg (by simp), ub_cb, List.length_map]
    rfl
  obtain ⟨b, hb'⟩ : ∃ b, b = (x :: l).map ub := ⟨_, rfl⟩
  obtain ⟨r, hr'⟩ : ∃ r, r = (x :: l).map cb := ⟨_, rfl⟩
  have h4 : ¬ ((b.length : Int) > 4096) := by rw [hb', List.length_map, List.length_cons]; omega
  have hs : r.map (C.shifts 0) = r := by rw [hr']; exact shifts_cb 0 _
  rw [← hb', ← hr'] at hb
  rw [← hb', ← hr']
  simp -implicitDefEqProofs only [go_sem] at hb h4
  simp -implicitDefEqProofs only [go_sem, a_mem_New, hb, h4, hs]
theorem New_ne (bs : List Int) (h : bs ≠ []) (hl : bs.length ≤ 4096) : call T F.mem_New [vL (bs.map ub)] [] = some (.tup [.one (cP 3), vI 0], [.cells 1 1 (bs.map cb), .tok 1 [0], .tok 3 [0], .cells 0 2 [[.own 0 1 0 bs.length, .ap 2 0 []]]]) := by
  cases bs with
  | nil => exact absurd rfl h
  | cons x l => exact New_cons x l (by simp at hl; omega)
section
variable {τ : Store} {mid tk n : Nat} {bc : C} {tr : List (List Fz)} (M : MemO τ mid tk bc n tr)
include M
theorem mem_cons : ∃ o r, τ = o :: r := by
  cases τ with
  | nil => have := M.hm; simp at this
  | cons o r => exact ⟨o, r, rfl⟩
theorem Bytes_nil (hb : bc = .f (.sl [])) : call T F.mem_Mem_Bytes [.one (cP mid)] τ = some (vL [], τ) := by
  rw [call_eq (fn := a_mem_Mem_Bytes) rfl]
  have gm := M.hm
  subst hb
  have hc : call T F.bytes_Clone [vL []] τ = some (vL [], τ) := by
    rw [call_extN (g := extBytesG 1) rfl]
    have ok := M.ok
    obtain ⟨o, r, rfl⟩ := mem_cons M
    unfold extBytesG cloneFz
    simp only []
    unfold Ok at ok
    rw [if_pos ⟨rfl, by simp [LIM], ok⟩]
    rfl
  have ok0 := Ok.at M.ok
  simp -implicitDefEqProofs only [go_sem] at hc
  simp -implicitDefEqProofs only [go_sem, a_mem_Mem_Bytes, gm, hc, ok0]
theorem Bytes_row (rid : Nat) (l : List Int) (hne : l ≠ []) (hl : l.length ≤ 4096) (hb : bc = .own rid 1 0 l.length) (hr : τ[rid]? = some (.cells 1 1 (l.map cb))) : call T F.mem_Mem_Bytes [.one (cP mid)] τ = some (vL (l.map ub), τ) := by
  rw [call_eq (fn := a_mem_Mem_Bytes) rfl]
  have gm := M.hm
  subst hb
  have hc : call T F.bytes_Clone [.one (.own rid 1 0 l.length)] τ = some (vL (l.map ub), τ) := by
    rw [call_extN (g := extBytesG 1) rfl]
    have ok := M.ok
    have hel : elems τ (.one (.own rid 1 0 l.length)) = some (l.map ub) := by
      simp only [elems, hr, Option.bind_some, Ob.frz, if_pos, List.drop_zero]
      rw [List.take_of_length_le (by simp), frzRows_cb]
    have hp : 0 < (l.map ub).length := by rw [List.length_map]; exact List.length_pos_iff.2 hne
    unfold extBytesG
    simp only []
    rw [hel]
    simp only [Option.bind_some, cloneOwn]
    unfold Ok at ok
    rw [if_pos ⟨okSz_ub _, by simp [LIM]; omega, hp, ok⟩]
    rfl
  have ok0 := Ok.at M.ok
  simp -implicitDefEqProofs only [go_sem] at hc
  simp -implicitDefEqProofs only [go_sem, a_mem_Mem_Bytes, gm, hc, ok0]
theorem Trace_call (hs : okSz 3 tr = true) : call T F.mem_Mem_Trace [.one (cP mid)] τ = some (vL tr, τ) := by
  rw [call_eq (fn := a_mem_Mem_Trace) rfl]
  have gm := M.hm
  have hc : call T F.slices_Clone_Touch [vL tr] [] = some (vL tr, []) := by
    rw [call_extN (g := extClone 3) rfl]
    unfold extClone
    simp only []
    rw [if_pos ⟨hs, by have := M.tr; simp [LIM]; omega⟩]
  have ok0 := Ok.at M.ok
  simp -implicitDefEqProofs only [go_sem] at hc
  simp -implicitDefEqProofs only [go_sem, a_mem_Mem_Trace, gm, hc, ok0]
end
end AC
