/- Functions that ask first whether a slice is nil: by both ways, that come to the same. -/
import Derived.Test.YtecjccggbbbaaaaGreatDraws
import Derived.WalkSpells
set_option linter.unusedVariables false
set_option linter.unusedSimpArgs false
namespace Go.A

def noTab : Nat → Option Entry := fun _ => none
theorem sound_noTab {P : Program} (n : Nat) : Sound P (callW noTab (execN noTab n)) := fun _ _ _ _ _ h => by simp [callW, noTab] at h

/-- slices.Clone and its like: 'x := asg; if t0 == nil { A }; B'. -/
structure TwoOk (P : Program) (CD : Draws) (κ : List Tmp) (gf : Func) (fn1 fn2 : Fun) (c0 c1 c2 : Code) (i0 i1 : Nat) (r0 : Array Go.Oper) (o1 o2 : Go.Oper) (ga gb : Go.Code) (t3 t4 ty ty' ty'' : Nat) : Prop where
  body : gf.body = some (.seq (.region i0 r0 false) (.seq (.seq (.region i1 #[o1, o2] false) (.cond (.tmp t4) ga .skip)) gb))
  b1 : fn1.body = .seq c0 c1
  b2 : fn2.body = .seq c0 c2
  k0 : chkCode P CD κ gf.ntmps (.region i0 r0 false) c0 = true
  k1 : chkCode P CD κ gf.ntmps ga c1 = true
  k2 : chkCode P CD κ gf.ntmps gb c2 = true
  e1 : o1.guard = none ∧ o1.dst = some t3 ∧ o1.op = .move (.tmp 0)
  e2 : o2.guard = none ∧ o2.dst = some t4 ∧ o2.op = .binOp .eql ty (.tmp t3) (.const (.slice none 0 0)) ty'
  ne : t3 ≠ t4
  f3 : κ.contains t3 = false ∧ t3 < gf.ntmps
  f4 : κ.contains t4 = false ∧ t4 < gf.ntmps
  arg : κ[0]? = some 0
  ty : P.underlying ty = some (.slice ty'')
  nd : noDup κ = true
  all : κ.all (fun t => decide (t < gf.ntmps)) = true
  same : fn1.np = fn2.np ∧ fn1.nslots = fn2.nslots ∧ fn1.keep = fn2.keep
  len : κ.length = fn2.nslots
  np : fn2.np ≤ fn2.nslots
  np2 : fn2.np ≤ gf.ntmps
  hd : κ.take fn2.np = List.range fn2.np
  q1 : okRes P κ gf.results.toList fn1.results = true
  q2 : okRes P κ gf.results.toList fn2.results = true

section
variable {P : Program} {CD : Draws} {κ : List Tmp}

theorem two_sound (hD : DrawOk P CD) {f : Nat} {gf : Func} {fn1 fn2 : Fun} {c0 c1 c2 : Code} {i0 i1 : Nat} {r0 : Array Go.Oper} {o1 o2 : Go.Oper} {ga gb : Go.Code} {t3 t4 ty ty' ty'' : Nat} (hgf : P.funcs[f]? = some gf) (T : TwoOk P CD κ gf fn1 fn2 c0 c1 c2 i0 i1 r0 o1 o2 ga gb t3 t4 ty ty' ty'')
    {xs : List (List Fz)} {σ : Store} {v : V} {σ' : Store} {n0 n2 : Nat} {s0 s2 : St} {e2 : Ex} (h0 : execN noTab n0 c0 (enter fn2 [vsl xs] σ) = some (.normal, s0)) (h0e : s0.env.getD 0 vun = vsl xs) (h2 : execN noTab n2 c2 s0 = some (e2, s2)) (l2 : leave fn2.raw fn2.results (e2, s2) = some (v, σ'))
    (h1 : xs = [] → ∃ n1 s1, execN noTab n1 c1 s0 = some (.ret, s1) ∧ leave fn1.raw fn1.results (.ret, s1) = some (v, σ')) (hnp : fn2.np = 1) {g : G} {w : World} {us : List Value} (R0 : Rel g w σ) (hv : vrels g w σ [vsl xs] us) :
    Calls P f us.toArray w fun e w' => ∃ u g', e = .returned u ∧ vrel g' w' σ' v u ∧ Rel g' w' σ' ∧ Ext g w σ g' w' σ' := by
  have hA := enter_sound (gf := gf) (fn := fn2) R0 hv T.nd T.all T.len T.np T.np2 T.hd (by rw [hnp]; rfl)
  have hall := fun n => code_all (P := P) (CD := CD) (T := noTab) (g0 := g.clean σ.length) (w0 := w) (σ0 := σ) (κ := κ) (nt := gf.ntmps) hD (clean_clean g σ.length) n fun m _ => sound_noTab m
  have hb0 := exec_base noTab n0 _ _ _ _ h0
  have hfin : ∀ (fn : Fun) (e : Ex) (s : St), okRes P κ gf.results.toList fn.results = true → leave fn.raw fn.results (e, s) = some (v, σ') → s.lim = (enter fn2 [vsl xs] σ).lim → ∀ x a' w', Post (g.clean σ.length) w σ κ gf.ntmps e s x a' w' →
      bodyPost P gf (fun e w' => ∃ u g', e = .returned u ∧ vrel g' w' σ' v u ∧ Rel g' w' σ' ∧ Ext g w σ g' w' σ') x a' w' ∧ x = toExit e := fun fn e s hok hleave hlim x a' w' hx => by
    obtain ⟨rfl, g', A'⟩ := hx
    obtain ⟨q1, q2, u, q3, g2, q4, q5, q6⟩ := leave_sound (fn := fn) (gf := gf) (clean_clean g σ.length) (by rw [hlim]; exact Nat.le_add_right _ _) hok hleave A'
    have hend : a'.defers = [] ∧ ∃ v1, (results gf a'.tmps).run P w' = .ok v1 w' ∧ ∃ u g', (Ending.returned v1) = .returned u ∧ vrel g' w' σ' v u ∧ Rel g' w' σ' ∧ Ext g w σ g' w' σ' :=
      ⟨q2, u, q3, u, G.under g w g2, rfl, vrel_same (g := g2) (g' := G.under g w g2) rfl rfl rfl _ _ q4, rel_under q6 q5, ext_under q6⟩
    rcases q1 with rfl | rfl
    · exact ⟨hend, rfl⟩
    · exact ⟨hend, rfl⟩
  refine calls_of_wp hgf T.body (wp_seq (wp_mono ((hall n0).1 _ c0 _ .normal s0 T.k0 h0 _ _ _ (Nat.le_refl _) hA) fun x a1 w1 hx => ?_))
  obtain ⟨rfl, g1, A1⟩ := hx
  show Exit.then _ _ .normal a1 w1
  simp only [Exit.then]
  have hsz := A1.fr.size
  have hu := A1.fr.env 0 0 T.arg
  simp only [h0e] at hu
  simp only [vsl, vrel, crel, rep] at hu
  obtain ⟨ad, c, sz, hu, _, _, hnil⟩ := hu
  refine wp_seq (wp_seq (wp_region_cons ?_))
  refine one_val (o := o1) rfl T.e1.1 T.e1.2.1 T.f3 (run_mv_op (.inr T.e1.2.2) hu) fun a2 P2 => ?_
  refine one_val (o := o2) (u := .bool ad.isNone) (w' := w1) rfl T.e2.1 T.e2.2.1 T.f4 ?_ fun a3 P3 => ?_
  · unfold execOp
    simp only [T.e2.2.2, eval_tmp, P2.val hsz, Act.eval]
    simp [eqGuard, Lib.run_eql_slice_nil w1 ty ty'' ad xs.length c 0 0 T.ty]
  show Exit.then _ _ .normal a3 w1
  simp only [Exit.then]
  have A3 : At' (g.clean σ.length) w σ κ gf.ntmps g1 w1 s0 a3 := ⟨A1.ext, A1.rel, P3.fr (P2.fr A1.fr)⟩
  have hle : σ.length ≤ s0.base := by rw [hb0.1]; exact Nat.le_refl _
  cases ad with
  | none =>
    have hxs : xs = [] := by
      rcases hnil with h | ⟨b, o, h, _⟩
      · exact h
      · cases h
    obtain ⟨n1, s1, h1a, h1b⟩ := h1 hxs
    have hb1 := exec_base noTab n1 _ _ _ _ h1a
    refine wp_cond_true (P3.val (P2.size hsz)) (wp_mono ((hall n1).1 ga c1 s0 .ret s1 T.k1 h1a _ _ _ hle A3) fun x a4 w4 hx => ?_)
    obtain ⟨k1, k2⟩ := hfin fn1 .ret s1 T.q1 h1b (by rw [hb1.2, hb0.2]) x a4 w4 hx
    subst k2
    simp only [toExit, Exit.then]
    exact k1
  | some ad =>
    have hb2 := exec_base noTab n2 _ _ _ _ h2
    refine wp_cond_false (P3.val (P2.size hsz)) (wp_skip ?_)
    simp only [Exit.then]
    exact wp_mono ((hall n2).1 gb c2 s0 e2 s2 T.k2 h2 _ _ _ hle A3) fun x a4 w4 hx => (hfin fn2 e2 s2 T.q2 l2 (by rw [hb2.2, hb0.2]) x a4 w4 hx).1

def isNilTest (t3 t4 : Nat) (o1 o2 : Go.Oper) : Bool := o1.guard.isNone && o1.dst == some t3 && o2.guard.isNone && o2.dst == some t4 &&
  (match o1.op with
    | .move (.tmp 0) => true
    | _ => false) && (match o2.op with
    | .binOp .eql _ (.tmp t) (.const (.slice none 0 0)) _ => t == t3
    | _ => false)
def tyOf (o : Go.Oper) : Nat × Nat := match o.op with
  | .binOp _ t _ _ t' => (t, t')
  | _ => (0, 0)
theorem isNilTest_some {t3 t4 : Nat} {o1 o2 : Go.Oper} (h : isNilTest t3 t4 o1 o2 = true) : (o1.guard = none ∧ o1.dst = some t3 ∧ o1.op = .move (.tmp 0)) ∧ (o2.guard = none ∧ o2.dst = some t4 ∧ o2.op = .binOp .eql (tyOf o2).1 (.tmp t3) (.const (.slice none 0 0)) (tyOf o2).2) := by
  unfold isNilTest at h
  simp only [Bool.and_eq_true, Option.isNone_iff_eq_none, beq_iff_eq] at h
  obtain ⟨⟨⟨⟨⟨h1, h2⟩, h3⟩, h4⟩, h5⟩, h6⟩ := h
  refine ⟨⟨h1, h2, ?_⟩, h3, h4, ?_⟩
  · split at h5
    · assumption
    · cases h5
  · unfold tyOf
    split at h6
    · rename_i heq
      rw [heq]
      simp only [beq_iff_eq] at h6
      rw [h6]
    · cases h6
def isSliceTy (P : Program) (t : Nat) : Bool := match P.underlying t with
  | some (.slice _) => true
  | _ => false
def chkTwo (P : Program) (CD : Draws) (κ : List Tmp) (gf : Func) (fn1 fn2 : Fun) : Bool := match gf.body, fn1.body, fn2.body with
  | some (.seq (.region i0 r0 false) (.seq (.seq (.region _ ⟨[o1, o2]⟩ false) (.cond (.tmp t4) ga .skip)) gb)), .seq c0 c1, .seq c0' c2 =>
    chkCode P CD κ gf.ntmps (.region i0 r0 false) c0 && chkCode P CD κ gf.ntmps (.region i0 r0 false) c0' && chkCode P CD κ gf.ntmps ga c1 && chkCode P CD κ gf.ntmps gb c2 && (match o1.dst with
      | some t3 => isNilTest t3 t4 o1 o2 && t3 != t4 && !κ.contains t3 && decide (t3 < gf.ntmps)
      | none => false) && !κ.contains t4 && decide (t4 < gf.ntmps) && κ[0]? == some 0 && isSliceTy P (tyOf o2).1 && noDup κ && κ.all (fun t => decide (t < gf.ntmps)) && κ.length == fn2.nslots && decide (fn2.np ≤ fn2.nslots) && decide (fn2.np ≤ gf.ntmps) && (κ.take fn2.np == List.range fn2.np) && okRes P κ gf.results.toList fn1.results && okRes P κ gf.results.toList fn2.results
  | _, _, _ => false

def cloneC0 : Code := .reg [⟨.slot 1, .mv (.c (.one (.f (.sl [])))), none⟩]
def cloneC1 : Code := .seq (.reg [⟨.slot 1, .mv (.c (.one (.f (.sl [])))), none⟩]) (.ret [false, true])
def cloneC2 (sz : Nat) : Code := .seq (.reg [⟨.loc, .bsl .tk sz [] [], none⟩, ⟨.loc, .mv (.s 0), none⟩, ⟨.loc, .app sz (.l 1) (.l 0), none⟩, ⟨.slot 1, .mv (.l 0), none⟩]) (.ret [false, true])
def cloneNil : Fun := ⟨1, 2, 0, false, [(1, none)], .seq cloneC0 cloneC1⟩
def cloneNon (sz : Nat) : Fun := ⟨1, 2, 0, false, [(1, none)], .seq cloneC0 (cloneC2 sz)⟩
/-- slices.Clone, of frozen data. -/
def extClone (sz : Nat) : List V → Store → Option (V × Store)
  | [.one (.f (.sl xs))], [] => if okSz sz xs = true ∧ xs.length ≤ LIM then some (.one (.f (.sl xs)), []) else none
  | _, _ => none

theorem clone_ext (hD : DrawOk P CD) {f : Nat} {gf : Func} {sz : Nat} (hgf : P.funcs[f]? = some gf) (hname : (gf.name == "runtime.NumGoroutine") = false) (hc : chkTwo P CD [0, 2] gf cloneNil (cloneNon sz) = true) (args : List V) (σ : Store) (v : V) (σ' : Store) (h : extClone sz args σ = some (v, σ')) :
    Enters P f ∧ ∀ g w us, Rel g w σ → vrels g w σ args us → Calls P f us.toArray w fun e w' => ∃ u g', e = .returned u ∧ vrel g' w' σ' v u ∧ Rel g' w' σ' ∧ Ext g w σ g' w' σ' := by
  unfold extClone at h
  split at h
  · rename_i xs
    split at h
    · rename_i hok
      injection h with h
      simp only [Prod.mk.injEq] at h
      obtain ⟨rfl, rfl⟩ := h
      unfold chkTwo at hc
      split at hc
      · rename_i i0 r0 i1 o1 o2 t4 ga gb c0 c1 c0' c2 hb hb1 hb2
        simp only [Bool.and_eq_true, beq_iff_eq, bne_iff_ne, ne_eq, Bool.not_eq_true', decide_eq_true_eq] at hc
        obtain ⟨⟨⟨⟨⟨⟨⟨⟨⟨⟨⟨⟨⟨⟨⟨⟨h1, h1'⟩, h2⟩, h3⟩, h4⟩, h5⟩, h6⟩, h7⟩, h8⟩, h9⟩, h10⟩, h11⟩, h12⟩, h13⟩, h14⟩, h15⟩, h16⟩ := hc
        split at h4
        · rename_i t3 ht3
          simp only [Bool.and_eq_true, bne_iff_ne, ne_eq, Bool.not_eq_true', decide_eq_true_eq] at h4
          obtain ⟨⟨⟨h4, hne⟩, hk3⟩, hl3⟩ := h4
          obtain ⟨k1, k2⟩ := isNilTest_some h4
          injection hb1 with e1 e2
          injection hb2 with e3 e4
          subst e1 e2 e3 e4
          refine ⟨⟨gf, _, hgf, hname, hb⟩, fun g w us R0 hv => ?_⟩
          obtain ⟨te, hte⟩ : ∃ te, P.underlying (tyOf o2).1 = some (.slice te) := by
            unfold isSliceTy at h8
            split at h8
            · rename_i te hte; exact ⟨te, hte⟩
            · cases h8
          have T : TwoOk P CD [0, 2] gf cloneNil (cloneNon sz) cloneC0 cloneC1 (cloneC2 sz) i0 i1 r0 o1 o2 ga gb t3 t4 (tyOf o2).1 (tyOf o2).2 te :=
            ⟨hb, rfl, rfl, h1, h2, h3, k1, k2, hne, ⟨hk3, hl3⟩, ⟨h5, h6⟩, h7, hte, h9, h10, ⟨rfl, rfl, rfl⟩, h11, h12, h13, h14, h15, h16⟩
          refine two_sound (n0 := 1) (n2 := 2) (e2 := .ret) (s0 := ⟨[vsl xs, vsl []], [], 0, 0⟩) (s2 := ⟨[vun, .one (.ap 0 0 xs)], [.tok sz [xs.length]], 0, 0⟩) hD hgf T ?_ rfl ?_ ?_ (fun hxs => ⟨2, ⟨[vun, vsl []], [], 0, 0⟩, ?_, ?_⟩) rfl R0 hv
          · simp [execN, cloneC0, steps, step, stepOp, R.get, R.put, regK, enter, cloneNon, vsl, vun]
          · simp [execN, cloneC2, steps, step, stepOp, R.get, R.put, regK, vsl, vun, fillS, absl, frzRows, abslT, R.alloc, elems, hok.1, aapp, appTok, Ob.front, Ob.setFront, R.setOb, hok.2, seqK, clr, St.mkSt]
          · simp [leave, cloneNon, outs, resAt, frzI, frzO, ocons, vsl, leaveK, dropSt, V.lts, V.lt, C.lt, Obs.lt, resV, vun]
          · simp [execN, cloneC1, steps, step, stepOp, R.get, R.put, regK, vsl, vun, seqK, clr, St.mkSt]
          · subst hxs
            simp [leave, cloneNil, outs, resAt, frzI, frzO, ocons, vsl, leaveK, dropSt, V.lts, V.lt, C.lt, Obs.lt, resV, vun]
        · cases h4
      · cases hc
    · cases h
  · cases h
end
end Go.A

/- bytes.Clone, by a contract of its own. -/
namespace Go.A
def cloneC2R (sz : Nat) : Code := .seq (.reg [⟨.loc, .bsl .rw sz [] [], none⟩, ⟨.loc, .mv (.s 0), none⟩, ⟨.loc, .app sz (.l 1) (.l 0), none⟩, ⟨.slot 1, .mv (.l 0), none⟩]) (.ret [false, true])
def cloneNilR : Fun := ⟨1, 2, 1, true, [(1, none)], .seq cloneC0 cloneC1⟩
def cloneNonR (sz : Nat) : Fun := ⟨1, 2, 1, true, [(1, none)], .seq cloneC0 (cloneC2R sz)⟩
/-- bytes.Clone: of nothing it is nothing; else it is a row of its own. -/
def extBytes (sz : Nat) : List V → Store → Option (V × Store)
  | [.one (.f (.sl xs))], [] => if okSz sz xs = true ∧ xs.length ≤ LIM then (if xs = [] then some (.one (.f (.sl [])), []) else some (.one (.own 0 1 0 xs.length), [.cells 1 sz (xs.map fun e => e.map C.f)])) else none
  | _, _ => none
section
variable {P : Program} {CD : Draws}
theorem chkTwo_T {f : Nat} {gf : Func} (hgf : P.funcs[f]? = some gf) (hname : (gf.name == "runtime.NumGoroutine") = false) {fn1 fn2 : Fun} {c0 c1 c2 : Code} (e1 : fn1.body = .seq c0 c1) (e2 : fn2.body = .seq c0 c2) (same : fn1.np = fn2.np ∧ fn1.nslots = fn2.nslots ∧ fn1.keep = fn2.keep) (hc : chkTwo P CD [0, 2] gf fn1 fn2 = true) :
    Enters P f ∧ ∃ i0 i1 r0 o1 o2 ga gb t3 t4 ty ty' ty'', TwoOk P CD [0, 2] gf fn1 fn2 c0 c1 c2 i0 i1 r0 o1 o2 ga gb t3 t4 ty ty' ty'' := by
  unfold chkTwo at hc
  split at hc
  · rename_i i0 r0 i1 o1 o2 t4 ga gb c0' c1' c0'' c2' hb hb1 hb2
    rw [e1] at hb1
    rw [e2] at hb2
    simp only [Bool.and_eq_true, beq_iff_eq, bne_iff_ne, ne_eq, Bool.not_eq_true', decide_eq_true_eq] at hc
    obtain ⟨⟨⟨⟨⟨⟨⟨⟨⟨⟨⟨⟨⟨⟨⟨⟨h1, h1'⟩, h2⟩, h3⟩, h4⟩, h5⟩, h6⟩, h7⟩, h8⟩, h9⟩, h10⟩, h11⟩, h12⟩, h13⟩, h14⟩, h15⟩, h16⟩ := hc
    split at h4
    · rename_i t3 ht3
      simp only [Bool.and_eq_true, bne_iff_ne, ne_eq, Bool.not_eq_true', decide_eq_true_eq] at h4
      obtain ⟨⟨⟨h4, hne⟩, hk3⟩, hl3⟩ := h4
      obtain ⟨k1, k2⟩ := isNilTest_some h4
      injection hb1 with q1 q2
      injection hb2 with q3 q4
      subst q1 q2 q4
      refine ⟨⟨gf, _, hgf, hname, hb⟩, ?_⟩
      obtain ⟨te, hte⟩ : ∃ te, P.underlying (tyOf o2).1 = some (.slice te) := by
        unfold isSliceTy at h8
        split at h8
        · rename_i te hte; exact ⟨te, hte⟩
        · cases h8
      exact ⟨i0, i1, r0, o1, o2, ga, gb, t3, t4, (tyOf o2).1, (tyOf o2).2, te, hb, e1, e2, h1, h2, h3, k1, k2, hne, ⟨hk3, hl3⟩, ⟨h5, h6⟩, h7, hte, h9, h10, same, h11, h12, h13, h14, h15, h16⟩
    · cases h4
  · cases hc
theorem bytes_ext (hD : DrawOk P CD) {f : Nat} {gf : Func} {sz : Nat} (hgf : P.funcs[f]? = some gf) (hname : (gf.name == "runtime.NumGoroutine") = false) (hc : chkTwo P CD [0, 2] gf cloneNil (cloneNon sz) = true) (hc2 : chkTwo P CD [0, 2] gf cloneNilR (cloneNonR sz) = true)
    (args : List V) (σ : Store) (v : V) (σ' : Store) (h : extBytes sz args σ = some (v, σ')) :
    Enters P f ∧ ∀ g w us, Rel g w σ → vrels g w σ args us → Calls P f us.toArray w fun e w' => ∃ u g', e = .returned u ∧ vrel g' w' σ' v u ∧ Rel g' w' σ' ∧ Ext g w σ g' w' σ' := by
  unfold extBytes at h
  split at h
  · rename_i xs
    split at h
    · rename_i hok
      split at h
      · rename_i hx
        subst hx
        injection h with h
        simp only [Prod.mk.injEq] at h
        obtain ⟨rfl, rfl⟩ := h
        exact clone_ext hD hgf hname hc _ _ _ _ (by simp [extClone, okSz, LIM])
      · rename_i hx
        injection h with h
        simp only [Prod.mk.injEq] at h
        obtain ⟨rfl, rfl⟩ := h
        obtain ⟨hE, i0, i1, r0, o1, o2, ga, gb, t3, t4, ty, ty', ty'', T⟩ := chkTwo_T (fn1 := cloneNilR) (fn2 := cloneNonR sz) (c0 := cloneC0) (c1 := cloneC1) (c2 := cloneC2R sz) hgf hname rfl rfl ⟨rfl, rfl, rfl⟩ hc2
        refine ⟨hE, fun g w us R0 hv => ?_⟩
        have hlen : 0 < 0 + xs.length := by have := List.length_pos_iff.2 hx; omega
        refine two_sound (n0 := 1) (n2 := 2) (e2 := .ret) (s0 := ⟨[vsl xs, vsl []], [], 0, 1⟩) (s2 := ⟨[vun, .one (.own 0 1 0 (0 + xs.length))], [.cells 1 sz (xs.map fun e => e.map C.f)], 0, 1⟩) hD hgf T ?_ rfl ?_ ?_ (fun hxs => absurd hxs hx) rfl R0 hv
        · simp [execN, cloneC0, steps, step, stepOp, R.get, R.put, regK, enter, cloneNonR, vsl, vun]
        · have hl2 : 0 + xs.length ≤ LIM := by omega
          simp [execN, cloneC2R, steps, step, stepOp, R.get, R.put, regK, vsl, vun, fillS, absl, R.alloc, elems, hok.1, aapp, appRow, Ob.isRow, Ob.grow, R.setOb, hok.2, hlen, seqK, clr, St.mkSt]
          rw [if_pos (List.length_pos_iff.2 hx)]
          rfl
        · simp [leave, cloneNonR, outs, resAt, frzI, ocons, leaveK, dropSt, resV]
    · cases h
  · cases h
end
end Go.A

/- slices.Clone and bytes.Clone of a row of the store: what is in it, frozen. -/
namespace Go.A
section
variable {P : Program} {CD : Draws} {κ : List Tmp}
theorem two_soundG (hD : DrawOk P CD) {f : Nat} {gf : Func} {fn1 fn2 : Fun} {c0 c1 c2 : Code} {i0 i1 : Nat} {r0 : Array Go.Oper} {o1 o2 : Go.Oper} {ga gb : Go.Code} {t3 t4 ty ty' ty'' : Nat} (hgf : P.funcs[f]? = some gf) (T : TwoOk P CD κ gf fn1 fn2 c0 c1 c2 i0 i1 r0 o1 o2 ga gb t3 t4 ty ty' ty'')
    {va : V} {E : Prop} {σ : Store} {v : V} {σ' : Store} {n0 n2 : Nat} {s0 s2 : St} {e2 : Ex} (h0 : execN noTab n0 c0 (enter fn2 [va] σ) = some (.normal, s0)) (h0e : s0.env.getD 0 vun = va) (hsl : ∀ g' w' u, Rel g' w' s0.st → vrel g' w' s0.st va u → ∃ ad n c, u = .slice ad n c ∧ (ad = none → E)) (h2 : execN noTab n2 c2 s0 = some (e2, s2)) (l2 : leave fn2.raw fn2.results (e2, s2) = some (v, σ'))
    (h1 : E → ∃ n1 s1, execN noTab n1 c1 s0 = some (.ret, s1) ∧ leave fn1.raw fn1.results (.ret, s1) = some (v, σ')) (hnp : fn2.np = 1) {g : G} {w : World} {us : List Value} (R0 : Rel g w σ) (hv : vrels g w σ [va] us) :
    Calls P f us.toArray w fun e w' => ∃ u g', e = .returned u ∧ vrel g' w' σ' v u ∧ Rel g' w' σ' ∧ Ext g w σ g' w' σ' := by
  have hA := enter_sound (gf := gf) (fn := fn2) R0 hv T.nd T.all T.len T.np T.np2 T.hd (by rw [hnp]; rfl)
  have hall := fun n => code_all (P := P) (CD := CD) (T := noTab) (g0 := g.clean σ.length) (w0 := w) (σ0 := σ) (κ := κ) (nt := gf.ntmps) hD (clean_clean g σ.length) n fun m _ => sound_noTab m
  have hb0 := exec_base noTab n0 _ _ _ _ h0
  have hfin : ∀ (fn : Fun) (e : Ex) (s : St), okRes P κ gf.results.toList fn.results = true → leave fn.raw fn.results (e, s) = some (v, σ') → s.lim = (enter fn2 [va] σ).lim → ∀ x a' w', Post (g.clean σ.length) w σ κ gf.ntmps e s x a' w' →
      bodyPost P gf (fun e w' => ∃ u g', e = .returned u ∧ vrel g' w' σ' v u ∧ Rel g' w' σ' ∧ Ext g w σ g' w' σ') x a' w' ∧ x = toExit e := fun fn e s hok hleave hlim x a' w' hx => by
    obtain ⟨rfl, g', A'⟩ := hx
    obtain ⟨q1, q2, u, q3, g2, q4, q5, q6⟩ := leave_sound (fn := fn) (gf := gf) (clean_clean g σ.length) (by rw [hlim]; exact Nat.le_add_right _ _) hok hleave A'
    have hend : a'.defers = [] ∧ ∃ v1, (results gf a'.tmps).run P w' = .ok v1 w' ∧ ∃ u g', (Ending.returned v1) = .returned u ∧ vrel g' w' σ' v u ∧ Rel g' w' σ' ∧ Ext g w σ g' w' σ' :=
      ⟨q2, u, q3, u, G.under g w g2, rfl, vrel_same (g := g2) (g' := G.under g w g2) rfl rfl rfl _ _ q4, rel_under q6 q5, ext_under q6⟩
    rcases q1 with rfl | rfl
    · exact ⟨hend, rfl⟩
    · exact ⟨hend, rfl⟩
  refine calls_of_wp hgf T.body (wp_seq (wp_mono ((hall n0).1 _ c0 _ .normal s0 T.k0 h0 _ _ _ (Nat.le_refl _) hA) fun x a1 w1 hx => ?_))
  obtain ⟨rfl, g1, A1⟩ := hx
  show Exit.then _ _ .normal a1 w1
  simp only [Exit.then]
  have hsz := A1.fr.size
  have hu := A1.fr.env 0 0 T.arg
  simp only [h0e] at hu
  obtain ⟨ad, n, c, hu, hnil⟩ := hsl _ _ _ A1.rel hu
  refine wp_seq (wp_seq (wp_region_cons ?_))
  refine one_val (o := o1) rfl T.e1.1 T.e1.2.1 T.f3 (run_mv_op (.inr T.e1.2.2) hu) fun a2 P2 => ?_
  refine one_val (o := o2) (u := .bool ad.isNone) (w' := w1) rfl T.e2.1 T.e2.2.1 T.f4 ?_ fun a3 P3 => ?_
  · unfold execOp
    simp only [T.e2.2.2, eval_tmp, P2.val hsz, Act.eval]
    simp [eqGuard, Lib.run_eql_slice_nil w1 ty ty'' ad n c 0 0 T.ty]
  show Exit.then _ _ .normal a3 w1
  simp only [Exit.then]
  have A3 : At' (g.clean σ.length) w σ κ gf.ntmps g1 w1 s0 a3 := ⟨A1.ext, A1.rel, P3.fr (P2.fr A1.fr)⟩
  have hle : σ.length ≤ s0.base := by rw [hb0.1]; exact Nat.le_refl _
  cases ad with
  | none =>
    have hxs := hnil rfl
    obtain ⟨n1, s1, h1a, h1b⟩ := h1 hxs
    have hb1 := exec_base noTab n1 _ _ _ _ h1a
    refine wp_cond_true (P3.val (P2.size hsz)) (wp_mono ((hall n1).1 ga c1 s0 .ret s1 T.k1 h1a _ _ _ hle A3) fun x a4 w4 hx => ?_)
    obtain ⟨k1, k2⟩ := hfin fn1 .ret s1 T.q1 h1b (by rw [hb1.2, hb0.2]) x a4 w4 hx
    subst k2
    simp only [toExit, Exit.then]
    exact k1
  | some ad =>
    have hb2 := exec_base noTab n2 _ _ _ _ h2
    refine wp_cond_false (P3.val (P2.size hsz)) (wp_skip ?_)
    simp only [Exit.then]
    exact wp_mono ((hall n2).1 gb c2 s0 e2 s2 T.k2 h2 _ _ _ hle A3) fun x a4 w4 hx => (hfin fn2 e2 s2 T.q2 l2 (by rw [hb2.2, hb0.2]) x a4 w4 hx).1
def cloneOwn (sz : Nat) (σ : Store) (xs : List (List Fz)) : Option (V × Store) := if okSz sz xs = true ∧ xs.length ≤ LIM ∧ 0 < xs.length ∧ Obs.lt σ.length σ = true then some (vsl xs, σ) else none
def cloneFz (sz : Nat) (σ : Store) (xs : List (List Fz)) : Option (V × Store) := if okSz sz xs = true ∧ xs.length ≤ LIM ∧ Obs.lt σ.length σ = true then some (vsl xs, σ) else none
def extCloneG (sz : Nat) : List V → Store → Option (V × Store)
  | [.one (.own id ver lo n)], σ => (elems σ (.one (.own id ver lo n))).bind (cloneOwn sz σ)
  | [.one (.f (.sl xs))], o :: σ => cloneFz sz (o :: σ) xs
  | as, σ => extClone sz as σ
def extBytesG (sz : Nat) : List V → Store → Option (V × Store)
  | [.one (.own id ver lo n)], σ => (elems σ (.one (.own id ver lo n))).bind (cloneOwn sz σ)
  | [.one (.f (.sl xs))], o :: σ => cloneFz sz (o :: σ) xs
  | as, σ => extBytes sz as σ
/-- The slice that a value of the machine stands for. -/
def IsSl (va : V) (xs : List (List Fz)) : Prop := va = vsl xs ∨ (∃ id ver lo n, va = .one (.own id ver lo n)) ∧ 0 < xs.length
theorem isSl_slice {g : G} {w : World} {σ : Store} {va : V} {xs : List (List Fz)} {u : Value} (h : IsSl va xs) (hel : elems σ va = some xs) (hv : vrel g w σ va u) : ∃ ad n c, u = .slice ad n c ∧ (ad = none → xs = []) := by
  rcases h with rfl | ⟨⟨id, ver, lo, n, rfl⟩, hpos⟩
  · simp only [vsl, vrel, crel, rep] at hv
    obtain ⟨ad, c, sz, hu, _, _, hnil⟩ := hv
    refine ⟨ad, _, c, hu, fun e => ?_⟩
    rcases hnil with h | ⟨b, o, h, _⟩
    · exact h
    · rw [e] at h; cases h
  · simp only [vrel, crel] at hv
    obtain ⟨ver0, sz, len, hs, hle, hown, ad0, c0, hu0⟩ := hv
    simp only [elems, Option.bind_eq_some_iff] at hel
    obtain ⟨ob, ho, hf⟩ := hel
    unfold Ob.frz at hf
    split at hf
    · rename_i ver' sz' es
      split at hf
      · rename_i hver
        subst hver
        have hs' : shapeOf σ id = some (ver', sz', es.length) := by simp [shapeOf, ho, Ob.shape]
        rw [hs'] at hs
        simp only [Option.some.injEq, Prod.mk.injEq] at hs
        obtain ⟨rfl, rfl, rfl⟩ := hs
        obtain ⟨a, c, hu, hnc, hl0, hl1⟩ := hown rfl
        refine ⟨a, n, c, hu, fun e => ?_⟩
        have hlen : xs.length ≤ n := by
          have := (frzRows_get hf).1
          rw [this]
          simp
          omega
        have hc : c ≠ 0 := by omega
        have hle : es.length ≠ 0 := fun h => hc (hl0 h)
        obtain ⟨_, ha, _⟩ := hl1 hle
        have := ha hc
        rw [e] at this
        cases this
      · cases hf
    · cases hf
theorem clone_open (hD : DrawOk P CD) {f : Nat} {gf : Func} {sz : Nat} (hgf : P.funcs[f]? = some gf) (hname : (gf.name == "runtime.NumGoroutine") = false) (hc : chkTwo P CD [0, 2] gf cloneNil (cloneNon sz) = true)
    (va : V) (xs : List (List Fz)) (σ : Store) (hel : ∀ o, elems (σ ++ o) va = some xs) (hk : IsSl va xs) (hok : okSz sz xs = true ∧ xs.length ≤ LIM ∧ Obs.lt σ.length σ = true) :
    Enters P f ∧ ∀ g w us, Rel g w σ → vrels g w σ [va] us → Calls P f us.toArray w fun e w' => ∃ u g', e = .returned u ∧ vrel g' w' σ (vsl xs) u ∧ Rel g' w' σ ∧ Ext g w σ g' w' σ := by
  obtain ⟨hE, i0, i1, r0, o1, o2, ga, gb, t3, t4, ty, ty', ty'', T⟩ := chkTwo_T (fn1 := cloneNil) (fn2 := cloneNon sz) (c0 := cloneC0) (c1 := cloneC1) (c2 := cloneC2 sz) hgf hname rfl rfl ⟨rfl, rfl, rfl⟩ hc
  refine ⟨hE, fun g w us R0 hv => ?_⟩
  have hel0 := hel []
  have hel1 := hel [.tok sz [0]]
  rw [List.append_nil] at hel0
  have hlt : ¬ σ.length + 1 ≤ σ.length := by omega
  refine two_soundG (E := xs = []) (va := va) (n0 := 1) (n2 := 2) (e2 := .ret) (s0 := ⟨[va, vsl []], σ, σ.length, σ.length⟩) (s2 := ⟨[vun, .one (.ap σ.length 0 xs)], σ ++ [.tok sz [xs.length]], σ.length, σ.length⟩) hD hgf T ?_ rfl (fun g' w' u _ h => isSl_slice hk hel0 h) ?_ ?_ (fun hxs => ⟨2, ⟨[vun, vsl []], σ, σ.length, σ.length⟩, ?_, ?_⟩) rfl R0 hv
  · simp [execN, cloneC0, steps, step, stepOp, R.get, R.put, regK, enter, cloneNon, vsl, vun]
  · simp [execN, cloneC2, steps, step, stepOp, R.get, R.put, regK, vsl, vun, fillS, absl, frzRows, abslT, R.alloc, hel1, hok.1, aapp, appTok, Ob.front, Ob.setFront, R.setOb, hok.2.1, seqK, clr, St.mkSt]
  · simp [leave, cloneNon, outs, resAt, frzI, frzO, ocons, vsl, leaveK, dropSt, V.lts, V.lt, C.lt, hok.2.2, resV, vun]
  · simp [execN, cloneC1, steps, step, stepOp, R.get, R.put, regK, vsl, vun, seqK, clr, St.mkSt]
  · subst hxs
    simp [leave, cloneNil, outs, resAt, frzI, frzO, ocons, vsl, leaveK, dropSt, V.lts, V.lt, C.lt, Obs.lt, resV, vun]
theorem own_elems {σ : Store} {id ver lo n : Nat} {xs : List (List Fz)} (h : elems σ (.one (.own id ver lo n)) = some xs) (o : Store) : elems (σ ++ o) (.one (.own id ver lo n)) = some xs := by
  simp only [elems, Option.bind_eq_some_iff] at h ⊢
  obtain ⟨ob, h1, h2⟩ := h
  exact ⟨ob, by rw [List.getElem?_append_left (List.getElem?_eq_some_iff.1 h1).1]; exact h1, h2⟩
theorem cloneOwn_sound (hD : DrawOk P CD) {f : Nat} {gf : Func} {sz : Nat} (hgf : P.funcs[f]? = some gf) (hname : (gf.name == "runtime.NumGoroutine") = false) (hc : chkTwo P CD [0, 2] gf cloneNil (cloneNon sz) = true)
    {id ver lo n : Nat} {σ σ' : Store} {v : V} (h : (elems σ (.one (.own id ver lo n))).bind (cloneOwn sz σ) = some (v, σ')) :
    Enters P f ∧ ∀ g w us, Rel g w σ → vrels g w σ [.one (.own id ver lo n)] us → Calls P f us.toArray w fun e w' => ∃ u g', e = .returned u ∧ vrel g' w' σ' v u ∧ Rel g' w' σ' ∧ Ext g w σ g' w' σ' := by
  rw [Option.bind_eq_some_iff] at h
  obtain ⟨xs, h1, h2⟩ := h
  unfold cloneOwn at h2
  split at h2
  · rename_i hok
    injection h2 with h2
    simp only [Prod.mk.injEq] at h2
    obtain ⟨rfl, rfl⟩ := h2
    exact clone_open hD hgf hname hc _ xs σ (own_elems h1) (.inr ⟨⟨_, _, _, _, rfl⟩, hok.2.2.1⟩) ⟨hok.1, hok.2.1, hok.2.2.2⟩
  · cases h2
theorem cloneFz_sound (hD : DrawOk P CD) {f : Nat} {gf : Func} {sz : Nat} (hgf : P.funcs[f]? = some gf) (hname : (gf.name == "runtime.NumGoroutine") = false) (hc : chkTwo P CD [0, 2] gf cloneNil (cloneNon sz) = true)
    {xs : List (List Fz)} {σ σ' : Store} {v : V} (h : cloneFz sz σ xs = some (v, σ')) :
    Enters P f ∧ ∀ g w us, Rel g w σ → vrels g w σ [.one (.f (.sl xs))] us → Calls P f us.toArray w fun e w' => ∃ u g', e = .returned u ∧ vrel g' w' σ' v u ∧ Rel g' w' σ' ∧ Ext g w σ g' w' σ' := by
  unfold cloneFz at h
  split at h
  · rename_i hok
    injection h with h
    simp only [Prod.mk.injEq] at h
    obtain ⟨rfl, rfl⟩ := h
    exact clone_open hD hgf hname hc _ xs σ (fun _ => rfl) (.inl rfl) hok
  · cases h
theorem cloneG_ext (hD : DrawOk P CD) {f : Nat} {gf : Func} {sz : Nat} (hgf : P.funcs[f]? = some gf) (hname : (gf.name == "runtime.NumGoroutine") = false) (hc : chkTwo P CD [0, 2] gf cloneNil (cloneNon sz) = true) (args : List V) (σ : Store) (v : V) (σ' : Store) (h : extCloneG sz args σ = some (v, σ')) :
    Enters P f ∧ ∀ g w us, Rel g w σ → vrels g w σ args us → Calls P f us.toArray w fun e w' => ∃ u g', e = .returned u ∧ vrel g' w' σ' v u ∧ Rel g' w' σ' ∧ Ext g w σ g' w' σ' := by
  unfold extCloneG at h
  split at h
  · exact cloneOwn_sound hD hgf hname hc h
  · exact cloneFz_sound hD hgf hname hc h
  · exact clone_ext hD hgf hname hc _ _ _ _ h
theorem bytesG_ext (hD : DrawOk P CD) {f : Nat} {gf : Func} {sz : Nat} (hgf : P.funcs[f]? = some gf) (hname : (gf.name == "runtime.NumGoroutine") = false) (hc : chkTwo P CD [0, 2] gf cloneNil (cloneNon sz) = true) (hc2 : chkTwo P CD [0, 2] gf cloneNilR (cloneNonR sz) = true)
    (args : List V) (σ : Store) (v : V) (σ' : Store) (h : extBytesG sz args σ = some (v, σ')) :
    Enters P f ∧ ∀ g w us, Rel g w σ → vrels g w σ args us → Calls P f us.toArray w fun e w' => ∃ u g', e = .returned u ∧ vrel g' w' σ' v u ∧ Rel g' w' σ' ∧ Ext g w σ g' w' σ' := by
  unfold extBytesG at h
  split at h
  · exact cloneOwn_sound hD hgf hname hc h
  · exact cloneFz_sound hD hgf hname hc h
  · exact bytes_ext hD hgf hname hc hc2 _ _ _ _ h
end
end Go.A
