import Derived.Test.YtecjccggbbbaaaaGreatKM
import Derived.Test.YtecjccggbbbaaaaGreatKN
set_option linter.unusedVariables false
set_option linter.unusedSimpArgs false
namespace AC
open Go Go.A Go.A.Lex
abbrev mS (σ : Store) (f : PFunc) (mid : Nat) (U : UMap) (s : Int) : Store := stR σ f mid 9 0 0 0 U s []
theorem mS_stE (σ : Store) (f : PFunc) (mid : Nat) (M U : UMap) (s : Int) : stE (mS σ f mid M 0) (σ.length + 3) (σ.length + 2) f (cP mid) 9 U s = mS σ f mid U s := by
  have sk := fun l k o => set_k (rfl : σ.length = σ.length) l k o
  rw [stE, sk, sk]
  rfl
abbrev o18 : POp := ⟨18, 8, 1, 4, [1, 2, 3], 0⟩
abbrev o16 : POp := ⟨16, 8, 1, 5, [2], 0⟩
abbrev kOne : PBlock := ⟨[], [o18], 0, 4, []⟩
abbrev kTwo : PBlock := ⟨[], [o16], 1, 0, [2]⟩
theorem one_ok : OkRun AC.oneF := by
  refine ⟨⟨by simp [oneF], by simp [oneF], fun b hb => ?_, by simp [oneF]⟩, fun b hb => ?_, fun b hb p hp => ?_⟩
  · simp only [oneF, List.mem_cons, List.not_mem_nil, or_false] at hb
    subst hb
    exact ⟨by simp, by simp, by simp, by simp [okOpL, okOp], by simp⟩
  · simp only [oneF, List.mem_cons, List.not_mem_nil, or_false] at hb
    subst hb
    simp
  · simp only [oneF, List.mem_cons, List.not_mem_nil, or_false] at hb
    subst hb
    simp at hp
theorem two_ok : OkRun AC.twoF := by
  refine ⟨⟨by simp [twoF], by simp [twoF], fun b hb => ?_, by simp [twoF]⟩, fun b hb => ?_, fun b hb p hp => ?_⟩
  · simp only [twoF, List.mem_cons, List.not_mem_nil, or_false] at hb
    rcases hb with rfl | rfl | rfl
    · exact ⟨by simp, by simp, by simp, by simp, by simp⟩
    · exact ⟨by simp, by simp, by simp, by simp [okOpL, okOp], by simp⟩
    · exact ⟨by simp, by simp, by simp [okPhi], by simp, by simp⟩
  · simp only [twoF, List.mem_cons, List.not_mem_nil, or_false] at hb
    rcases hb with rfl | rfl | rfl <;> simp
  · simp only [twoF, List.mem_cons, List.not_mem_nil, or_false] at hb
    rcases hb with rfl | rfl | rfl
    · simp at hp
    · simp at hp
    · simp at hp
      subst hp
      simp
theorem Ok.tail {a b : Store} (h : Ok (a ++ b)) : Obs.lt (a.length + b.length) b = true := by
  have h := Ok.at h
  rw [List.length_append, obs_lt_app, Bool.and_eq_true] at h
  exact h.2
section
variable {σ σ' : Store} {mid tk n p : Nat} {bc : C} {tr : List (List Fz)} {q : Option Int} (M0 : MemO σ mid tk bc n tr) (B : Byte σ mid tk bc n tr p q σ')
include M0
theorem mem_mid : mid < σ.length := (List.getElem?_eq_some_iff.1 M0.hm).1
theorem mS_mach (f : PFunc) (M : UMap) : Mach (mS σ f mid M 0) (σ.length + 3) (σ.length + 2) f (cP mid) 9 M 0 := stR_mach M0.ok f mid (mem_mid M0) 9 M
omit M0 in
theorem mS_len (f : PFunc) (M : UMap) (s : Int) : (mS σ f mid M s).length = σ.length + 4 := by simp
include B
theorem mS_mach' (f : PFunc) (M : UMap) : Mach (mS σ' f mid M 0) (σ.length + 3) (σ.length + 2) f (cP mid) 9 M 0 := by
  have := stR_mach (B.ok M0) f mid (by rw [B.length]; exact mem_mid M0) 9 M
  rwa [B.length] at this
omit M0 in
theorem mS_stE' (f : PFunc) (M U : UMap) (s : Int) : stE (mS σ' f mid M 0) (σ.length + 3) (σ.length + 2) f (cP mid) 9 U s = mS σ' f mid U s := by
  have := mS_stE σ' f mid M U s
  rwa [B.length] at this
omit M0 in
theorem mS_len' (f : PFunc) (M : UMap) (s : Int) : (mS σ' f mid M s).length = σ.length + 4 := by
  rw [← B.length]
  simp
/-- The store in which an operation's way is called. -/
abbrev wS (σ : Store) (f : PFunc) (mid : Nat) (M U : UMap) (s : Int) (b : PBlock) (o : POp) : Store := stE (mS σ f mid M 0) (σ.length + 3) (σ.length + 2) f (cP mid) 9 U s ++ tailO (σ.length + 3) (mS σ f mid M 0).length b [.cells 0 6 [cOp o]]
abbrev rS (n : Nat) (f : PFunc) (mid : Nat) (U : UMap) (s : Int) (b : PBlock) (o : POp) : Store := (.cells 0 3 [cFunc f] :: bR 0 0 0 :: .mp (encM vU1 U) :: obM f (cP mid) (n + 2) 9 s :: []) ++ tailO (n + 3) (n + 4) b [.cells 0 6 [cOp o]]
omit M0 B in
theorem wS_eq (f : PFunc) (M U : UMap) (s : Int) (b : PBlock) (o : POp) : wS σ f mid M U s b o = σ ++ rS σ.length f mid U s b o := by
  unfold wS
  rw [mS_stE, mS_len]
  exact List.append_assoc _ _ _
omit B in
theorem w_mach (f : PFunc) (M U : UMap) (s : Int) (b : PBlock) (o : POp) : Mach (wS σ f mid M U s b o) (σ.length + 3) (σ.length + 2) f (cP mid) 9 U s :=
  mach_tail (mS_mach M0 f M) b [.cells 0 6 [cOp o]] (by simp -implicitDefEqProofs only [go_sem]) U s
omit B in
theorem w_mem (f : PFunc) (M U : UMap) (s : Int) (b : PBlock) (o : POp) : MemO (wS σ f mid M U s b o) mid tk bc n tr := by
  have h := (w_mach M0 f M U s b o).ok
  rw [wS_eq] at h ⊢
  exact M0.app _ h.tail
omit M0 in
theorem wS_eq' (f : PFunc) (M U : UMap) (s : Int) (b : PBlock) (o : POp) : stE (mS σ' f mid M 0) (σ.length + 3) (σ.length + 2) f (cP mid) 9 U s ++ tailO (σ.length + 3) (mS σ f mid M 0).length b [.cells 0 6 [cOp o]] = σ' ++ rS σ.length f mid U s b o := by
  rw [mS_stE' B, mS_len]
  have := B.length
  show (σ' ++ (.cells 0 3 [cFunc f] :: bR 0 0 0 :: .mp (encM vU1 U) :: obM f (cP mid) (σ'.length + 2) 9 s :: [])) ++ _ = _
  rw [this]
  exact List.append_assoc _ _ _
theorem w_byte (f : PFunc) (M U : UMap) (s : Int) (b : PBlock) (o : POp) : Byte (wS σ f mid M U s b o) mid tk bc n tr p q (stE (mS σ' f mid M 0) (σ.length + 3) (σ.length + 2) f (cP mid) 9 U s ++ tailO (σ.length + 3) (mS σ f mid M 0).length b [.cells 0 6 [cOp o]]) := by
  rw [wS_eq, wS_eq' B]
  exact B.app M0 _
theorem way_load (f : PFunc) (M U : UMap) (s : Int) (b : PBlock) (hp : getM 2 U = some (p : Int)) :
    call T F.eval_machine_load ([cP (σ.length + 3)].map A.V.one ++ ([vOp o16] ++ ([] : List C).map A.V.one)) (wS σ f mid M U s b o16) = some (vTwo q, stE (mS σ' f mid M 0) (σ.length + 3) (σ.length + 2) f (cP mid) 9 U s ++ tailO (σ.length + 3) (mS σ f mid M 0).length b [.cells 0 6 [cOp o16]]) :=
  em_load_call (w_mach M0 f M U s b o16) (w_mem M0 f M U s b o16) o16 2 rfl p hp rfl rfl q (w_byte M0 B f M U s b o16)
abbrev gC (n : Nat) : List C := [cP (n + 5), cP (n + 6), cP (n + 7)]
theorem way_yes (f : PFunc) (M U : UMap) (s : Int) (b : PBlock) (h1 : getM 1 U = some 1) (hp : getM 2 U = some (p : Int)) :
    call T F.eval_machine_guarded_1 (([] : List C).map A.V.one ++ ([vOp o18] ++ (gC σ.length).map A.V.one)) (wS σ f mid M U s b o18) = some (vTwo q, stE (mS σ' f mid M 0) (σ.length + 3) (σ.length + 2) f (cP mid) 9 U s ++ tailO (σ.length + 3) (mS σ f mid M 0).length b [.cells 0 6 [cOp o18]]) := by
  have gk := fun k => get_k (rfl : σ.length = σ.length) (rS σ.length f mid U s b o18) k
  refine em_guard_yes (w_mach M0 f M U s b o18) (w_mem M0 f M U s b o18) (σ.length + 5) (σ.length + 6) (σ.length + 7) ?_ ?_ ?_ 4 1 2 3 1 h1 rfl p hp q (w_byte M0 B f M U s b o18)
  · rw [wS_eq, gk]; rfl
  · rw [wS_eq, gk]; rfl
  · rw [wS_eq, gk]; rfl
omit B in
theorem way_no (f : PFunc) (M U : UMap) (s g d : Int) (b : PBlock) (h1 : getM 1 U = some g) (hg : ¬ g = 1) (h3 : getM 3 U = some d) :
    call T F.eval_machine_guarded_1 (([] : List C).map A.V.one ++ ([vOp o18] ++ (gC σ.length).map A.V.one)) (wS σ f mid M U s b o18) = some (vTwo (some d), wS σ f mid M U s b o18) := by
  have gk := fun k => get_k (rfl : σ.length = σ.length) (rS σ.length f mid U s b o18) k
  refine em_guard_no (w_mach M0 f M U s b o18) (σ.length + 5) (σ.length + 6) (σ.length + 7) ?_ 4 1 2 3 g d h1 h3 hg
  rw [wS_eq, gk]; rfl
end
end AC

namespace AC
open Go Go.A Go.A.Lex
theorem mget_all18 (x n : Nat) : mget 18 (allE x n) = some (.one (.fn F.eval_machine_guarded_1 [] [cP (n + 1), cP (n + 2), cP (n + 3)])) := rfl
theorem mget_all16 (x n : Nat) : mget 16 (allE x n) = some (.one (.fn F.eval_machine_load [cP x] [])) := rfl
theorem kOne_ok : okB kOne := ⟨by simp, by simp, by simp, by simp [okOpL, okOp], by simp⟩
theorem kTwo_ok : okB kTwo := ⟨by simp, by simp, by simp, by simp [okOpL, okOp], by simp⟩
section
variable {σ σ' : Store} {mid : Nat} (hσ : Ok σ) (hσ' : Ok σ') (hlen : σ'.length = σ.length) (hmid : mid < σ.length) (M : UMap)
include hσ hσ' hlen hmid
theorem one_run_val (c : Int) (hc : call T F.eval_machine_guarded_1 (([] : List C).map A.V.one ++ ([vOp o18] ++ (gC σ.length).map A.V.one)) (wS σ oneF mid M M 1 kOne o18) = some (vTwo (some c), stE (mS σ' oneF mid M 0) (σ.length + 3) (σ.length + 2) oneF (cP mid) 9 M 1 ++ tailO (σ.length + 3) (mS σ oneF mid M 0).length kOne [.cells 0 6 [cOp o18]])) :
    call T F.eval_machine_run [.one (cP (σ.length + 3))] (mS σ oneF mid M 0) = some (.tup [vI 0, vU64 c], mS σ' oneF mid (putM 4 c M) 2) := by
  have h := stR_mach hσ oneF mid hmid 9 M
  have h' := stR_mach hσ' oneF mid (by rw [hlen]; exact hmid) 9 M
  have es := mS_stE σ' oneF mid M (putM 4 c M) 2
  rw [hlen] at h' es
  have hl : (mS σ' oneF mid M 0).length = (mS σ oneF mid M 0).length := by simp [hlen]
  have hg : mget o18.kind (allE (σ.length + 3) (mS σ oneF mid M 0).length) = some (.one (.fn F.eval_machine_guarded_1 [] (gC σ.length))) := by
    rw [mS_len]
    exact mget_all18 _ _
  have hL := fun a1 a2 a5 a7 a8 a9 a13 a14 a15 a16 a17 a18 a19 => run_l0_val h h' hl o18 [] 0 4 [] kOne_ok M 0 (by omega) (by omega) (by simp) F.eval_machine_guarded_1 [] (gC σ.length) hg (vI ((0 : Nat) : Int)) rfl c hc a1 a2 a5 a7 a8 a9 a13 a14 a15 a16 a17 a18 a19
  have hR := run_retM h h' hl one_ok (by omega) kOne 0 0 rfl M M (putM 4 c M) 0 1 (by omega) rfl hL (by omega) rfl c (by rw [get_putM, if_pos rfl]) (vI 0) (vU64 0) vU vU vU vU vU vU vU vU vU vU vU vU vU vU
  rw [h.same] at hR
  have := em_run_of h (σ' := stE (mS σ' oneF mid M 0) (σ.length + 3) (σ.length + 2) oneF (cP mid) 9 (putM 4 c M) 2) (by rw [stE_length]; exact hl) ((h'.to _ _).ok) 0 c ⟨_, scope_ret hR⟩
  rw [es] at this
  exact this
theorem one_run_trap (hc : call T F.eval_machine_guarded_1 (([] : List C).map A.V.one ++ ([vOp o18] ++ (gC σ.length).map A.V.one)) (wS σ oneF mid M M 1 kOne o18) = some (vTwo none, stE (mS σ' oneF mid M 0) (σ.length + 3) (σ.length + 2) oneF (cP mid) 9 M 1 ++ tailO (σ.length + 3) (mS σ oneF mid M 0).length kOne [.cells 0 6 [cOp o18]])) :
    call T F.eval_machine_run [.one (cP (σ.length + 3))] (mS σ oneF mid M 0) = some (.tup [vI 8, vU64 0], mS σ' oneF mid M 1) := by
  have h := stR_mach hσ oneF mid hmid 9 M
  have h' := stR_mach hσ' oneF mid (by rw [hlen]; exact hmid) 9 M
  have es := mS_stE σ' oneF mid M M 1
  rw [hlen] at h' es
  have hl : (mS σ' oneF mid M 0).length = (mS σ oneF mid M 0).length := by simp [hlen]
  have hg : mget o18.kind (allE (σ.length + 3) (mS σ oneF mid M 0).length) = some (.one (.fn F.eval_machine_guarded_1 [] (gC σ.length))) := by
    rw [mS_len]
    exact mget_all18 _ _
  have hL := fun a1 a2 a5 a7 a8 a9 a13 a14 a15 a16 a17 a18 a19 => run_l0_trap h h' hl o18 [] 0 4 [] M 0 (by omega) (by omega) F.eval_machine_guarded_1 [] (gC σ.length) hg (vI ((0 : Nat) : Int)) rfl hc a1 a2 a5 a7 a8 a9 a13 a14 a15 a16 a17 a18 a19
  have hR := run_stopM h h' hl one_ok kOne 0 0 rfl M M M 0 1 8 o18 (by omega) rfl hL (vI 0) (vU64 0) vU vU vU vU vU vU vU vU vU vU vU vU vU vU
  rw [h.same] at hR
  have := em_run_of h (σ' := stE (mS σ' oneF mid M 0) (σ.length + 3) (σ.length + 2) oneF (cP mid) 9 M 1) (by rw [stE_length]; exact hl) ((h'.to _ _).ok) 8 0 ⟨_, scope_ret hR⟩
  rw [es] at this
  exact this
abbrev b0 : PBlock := ⟨[], [], 2, 1, [1, 2]⟩
abbrev b2 : PBlock := ⟨[⟨8, 4, [0, 1], [3, 5]⟩], [], 0, 4, []⟩
theorem two_run_val (c : Int) (h1 : getM 1 M = some 1) (hc : call T F.eval_machine_load ([cP (σ.length + 3)].map A.V.one ++ ([vOp o16] ++ ([] : List C).map A.V.one)) (wS σ twoF mid M M 2 kTwo o16) = some (vTwo (some c), stE (mS σ' twoF mid M 0) (σ.length + 3) (σ.length + 2) twoF (cP mid) 9 M 2 ++ tailO (σ.length + 3) (mS σ twoF mid M 0).length kTwo [.cells 0 6 [cOp o16]])) :
    call T F.eval_machine_run [.one (cP (σ.length + 3))] (mS σ twoF mid M 0) = some (.tup [vI 0, vU64 c], mS σ' twoF mid (putM 4 c (putM 5 c M)) 4) := by
  have h := stR_mach hσ twoF mid hmid 9 M
  have h' := stR_mach hσ' twoF mid (by rw [hlen]; exact hmid) 9 M
  have es := mS_stE σ' twoF mid M (putM 4 c (putM 5 c M)) 4
  rw [hlen] at h' es
  have hl : (mS σ' twoF mid M 0).length = (mS σ twoF mid M 0).length := by simp [hlen]
  have hg : mget o16.kind (allE (σ.length + 3) (mS σ twoF mid M 0).length) = some (.one (.fn F.eval_machine_load [cP (σ.length + 3)] [])) := mget_all16 _ _
  have hL := fun a1 a2 a5 a7 a8 a9 a13 a14 a15 a16 a17 a18 a19 => run_l0_val h h' hl o16 [] 1 0 [2] kTwo_ok M 1 (by omega) (by omega) (by simp) F.eval_machine_load [cP (σ.length + 3)] [] hg (vI ((1 : Nat) : Int)) rfl c hc a1 a2 a5 a7 a8 a9 a13 a14 a15 a16 a17 a18 a19
  have hR0 := run_next h two_ok (by omega) b0 0 0 rfl M M M 0 0 (by omega) rfl rfl (by omega) (by decide) (by decide) 1 (by rw [nextS, if_pos rfl, h1]; rfl) (vI 0) (vU64 0) vU vU vU vU vU vU vU vU vU vU vU vU vU vU
  have hR1 := run_nextM h h' hl two_ok (by omega) kTwo 1 0 rfl M M (putM 5 c M) 1 2 (by omega) rfl hL (by omega) (by decide) (by decide) 2 rfl vU vU vU vU vU vU vU vU vU vU vU vU vU vU vU vU
  have hP : phisV (putM 5 c M) ((1 : Nat) : Int) b2 = some (putM 4 c (putM 5 c M)) := by
    have : getM 5 (putM 5 c M) = some c := by rw [get_putM, if_pos rfl]
    simp [phisV, allPicks, picks, this, putPhiV]
  have hR2 := run_ret h' two_ok (by omega) b2 2 1 rfl (putM 5 c M) (putM 4 c (putM 5 c M)) (putM 4 c (putM 5 c M)) 3 3 (by omega) hP rfl (by omega) rfl c (by rw [get_putM, if_pos rfl]) vU vU vU vU vU vU vU vU vU vU vU vU vU vU vU vU
  rw [h.same] at hR0
  rw [hl] at hR2
  have e := (scope_goto hR0).trans ((scope_goto hR1).trans (scope_ret hR2))
  have := em_run_of h (σ' := stE (mS σ' twoF mid M 0) (σ.length + 3) (σ.length + 2) twoF (cP mid) 9 (putM 4 c (putM 5 c M)) 4) (by rw [stE_length]; exact hl) ((h'.to _ _).ok) 0 c ⟨_, e⟩
  rw [es] at this
  exact this
theorem two_run_trap (h1 : getM 1 M = some 1) (hc : call T F.eval_machine_load ([cP (σ.length + 3)].map A.V.one ++ ([vOp o16] ++ ([] : List C).map A.V.one)) (wS σ twoF mid M M 2 kTwo o16) = some (vTwo none, stE (mS σ' twoF mid M 0) (σ.length + 3) (σ.length + 2) twoF (cP mid) 9 M 2 ++ tailO (σ.length + 3) (mS σ twoF mid M 0).length kTwo [.cells 0 6 [cOp o16]])) :
    call T F.eval_machine_run [.one (cP (σ.length + 3))] (mS σ twoF mid M 0) = some (.tup [vI 8, vU64 0], mS σ' twoF mid M 2) := by
  have h := stR_mach hσ twoF mid hmid 9 M
  have h' := stR_mach hσ' twoF mid (by rw [hlen]; exact hmid) 9 M
  have es := mS_stE σ' twoF mid M M 2
  rw [hlen] at h' es
  have hl : (mS σ' twoF mid M 0).length = (mS σ twoF mid M 0).length := by simp [hlen]
  have hg : mget o16.kind (allE (σ.length + 3) (mS σ twoF mid M 0).length) = some (.one (.fn F.eval_machine_load [cP (σ.length + 3)] [])) := mget_all16 _ _
  have hL := fun a1 a2 a5 a7 a8 a9 a13 a14 a15 a16 a17 a18 a19 => run_l0_trap h h' hl o16 [] 1 0 [2] M 1 (by omega) (by omega) F.eval_machine_load [cP (σ.length + 3)] [] hg (vI ((1 : Nat) : Int)) rfl hc a1 a2 a5 a7 a8 a9 a13 a14 a15 a16 a17 a18 a19
  have hR0 := run_next h two_ok (by omega) b0 0 0 rfl M M M 0 0 (by omega) rfl rfl (by omega) (by decide) (by decide) 1 (by rw [nextS, if_pos rfl, h1]; rfl) (vI 0) (vU64 0) vU vU vU vU vU vU vU vU vU vU vU vU vU vU
  have hR1 := run_stopM h h' hl two_ok kTwo 1 0 rfl M M M 1 2 8 o16 (by omega) rfl hL vU vU vU vU vU vU vU vU vU vU vU vU vU vU vU vU
  rw [h.same] at hR0
  have e := (scope_goto hR0).trans (scope_ret hR1)
  have := em_run_of h (σ' := stE (mS σ' twoF mid M 0) (σ.length + 3) (σ.length + 2) twoF (cP mid) 9 M 2) (by rw [stE_length]; exact hl) ((h'.to _ _).ok) 8 0 ⟨_, e⟩
  rw [es] at this
  exact this
omit hσ' hlen in
theorem two_run_no (g d : Int) (h1 : getM 1 M = some g) (hg1 : ¬ g = 1) (h3 : getM 3 M = some d) : call T F.eval_machine_run [.one (cP (σ.length + 3))] (mS σ twoF mid M 0) = some (.tup [vI 0, vU64 d], mS σ twoF mid (putM 4 d M) 2) := by
  have h := stR_mach hσ twoF mid hmid 9 M
  have es := mS_stE σ twoF mid M (putM 4 d M) 2
  have hR0 := run_next h two_ok (by omega) b0 0 0 rfl M M M 0 0 (by omega) rfl rfl (by omega) (by decide) (by decide) 2 (by rw [nextS, if_pos rfl, h1]; simp [hg1]) (vI 0) (vU64 0) vU vU vU vU vU vU vU vU vU vU vU vU vU vU
  have hP : phisV M ((0 : Nat) : Int) b2 = some (putM 4 d M) := by
    simp [phisV, allPicks, picks, h3, putPhiV]
  have hR2 := run_ret h two_ok (by omega) b2 2 0 rfl M (putM 4 d M) (putM 4 d M) 1 1 (by omega) hP rfl (by omega) rfl d (by rw [get_putM, if_pos rfl]) vU vU vU vU vU vU vU vU vU vU vU vU vU vU vU vU
  rw [h.same] at hR0
  have e := (scope_goto hR0).trans (scope_ret hR2)
  have := em_run_of h (σ' := stE (mS σ twoF mid M 0) (σ.length + 3) (σ.length + 2) twoF (cP mid) 9 (putM 4 d M) 2) (by rw [stE_length]) ((h.to _ _).ok) 0 d ⟨_, e⟩
  rw [es] at this
  exact this
end
end AC

namespace AC
open Go Go.A Go.A.Lex
abbrev aM (g p v : Int) : UMap := [(1, g), (2, p), (3, v)]
theorem args_eq {g p v : Int} (hg : 0 ≤ g ∧ g < 2) (hp : 0 ≤ p ∧ p < 256) (hv : 0 ≤ v ∧ v < 256) : argsV 0 [] [1, 64, 8] [g, p, v] = aM g p v := by
  have w1 : mayW 1 = true := rfl
  have w64 : mayW 64 = true := rfl
  have w8 : mayW 8 = true := rfl
  have e1 : cutW g 1 = g := cutW_of 1 w1 hg.1 (by simpa using hg.2)
  have e2 : cutW p 64 = p := cutW_of 64 w64 hp.1 (by show p < 18446744073709551616; omega)
  have e3 : cutW v 8 = v := cutW_of 8 w8 hv.1 (by simpa using hv.2)
  show [(((0 : Nat) : Int) + 1, cutW g 1), (((1 : Nat) : Int) + 1, cutW p 64), (((2 : Nat) : Int) + 1, cutW v 8)] = _
  rw [e1, e2, e3]
  rfl
section
variable {σ σ' : Store} {mid tk n p : Nat} {bc : C} {tr : List (List Fz)} {q : Option Int} (M0 : MemO σ mid tk bc n tr) (B : Byte σ mid tk bc n tr p q σ') (v : Int) (hv : 0 ≤ v ∧ v < 256)
abbrev rR (c w s : Int) : A.V := .tup [.agg [.f (ei c), .f (eu w), .f (ei s)], vI 0]
include M0 B hv
theorem Run_one_yes (c : Int) (hq : q = some c) : call T F.eval_Run [vFunc oneF, vL (([1, (p : Int), v] : List Int).map ru), .one (cP mid), vI 9] σ = some (rR 0 c 2, σ') := by
  subst hq
  have hs := B.small
  have hA := args_eq (g := 1) (p := p) (v := v) (by omega) (by omega) hv
  have hW := way_yes M0 B oneF (aM 1 p v) (aM 1 p v) 1 kOne rfl rfl
  have hR := one_run_val M0.ok (B.ok M0) B.length (mem_mid M0) (aM 1 p v) c hW
  have hm := mem_mid M0
  refine Run_of M0.ok (B.ok M0) B.length oneF one_ok mid hm 9 (by omega) one_check [1, (p : Int), v] rfl ?_ 0 c 2 _ (hA ▸ hR)
  intro x hx
  simp only [List.mem_cons, List.not_mem_nil, or_false] at hx
  omega
theorem Run_one_trap (hq : q = none) : call T F.eval_Run [vFunc oneF, vL (([1, (p : Int), v] : List Int).map ru), .one (cP mid), vI 9] σ = some (rR 8 0 1, σ') := by
  subst hq
  have hs := B.small
  have hA := args_eq (g := 1) (p := p) (v := v) (by omega) (by omega) hv
  have hW := way_yes M0 B oneF (aM 1 p v) (aM 1 p v) 1 kOne rfl rfl
  have hR := one_run_trap M0.ok (B.ok M0) B.length (mem_mid M0) (aM 1 p v) hW
  have hm := mem_mid M0
  refine Run_of M0.ok (B.ok M0) B.length oneF one_ok mid hm 9 (by omega) one_check [1, (p : Int), v] rfl ?_ 8 0 1 _ (hA ▸ hR)
  intro x hx
  simp only [List.mem_cons, List.not_mem_nil, or_false] at hx
  omega
theorem Run_two_yes (c : Int) (hq : q = some c) : call T F.eval_Run [vFunc twoF, vL (([1, (p : Int), v] : List Int).map ru), .one (cP mid), vI 9] σ = some (rR 0 c 4, σ') := by
  subst hq
  have hs := B.small
  have hA := args_eq (g := 1) (p := p) (v := v) (by omega) (by omega) hv
  have hW := way_load M0 B twoF (aM 1 p v) (aM 1 p v) 2 kTwo rfl
  have hR := two_run_val M0.ok (B.ok M0) B.length (mem_mid M0) (aM 1 p v) c rfl hW
  have hm := mem_mid M0
  refine Run_of M0.ok (B.ok M0) B.length twoF two_ok mid hm 9 (by omega) two_check [1, (p : Int), v] rfl ?_ 0 c 4 _ (hA ▸ hR)
  intro x hx
  simp only [List.mem_cons, List.not_mem_nil, or_false] at hx
  omega
theorem Run_two_trap (hq : q = none) : call T F.eval_Run [vFunc twoF, vL (([1, (p : Int), v] : List Int).map ru), .one (cP mid), vI 9] σ = some (rR 8 0 2, σ') := by
  subst hq
  have hs := B.small
  have hA := args_eq (g := 1) (p := p) (v := v) (by omega) (by omega) hv
  have hW := way_load M0 B twoF (aM 1 p v) (aM 1 p v) 2 kTwo rfl
  have hR := two_run_trap M0.ok (B.ok M0) B.length (mem_mid M0) (aM 1 p v) rfl hW
  have hm := mem_mid M0
  refine Run_of M0.ok (B.ok M0) B.length twoF two_ok mid hm 9 (by omega) two_check [1, (p : Int), v] rfl ?_ 8 0 2 _ (hA ▸ hR)
  intro x hx
  simp only [List.mem_cons, List.not_mem_nil, or_false] at hx
  omega
omit B in
theorem Run_one_no (hp : p < 256) : call T F.eval_Run [vFunc oneF, vL (([0, (p : Int), v] : List Int).map ru), .one (cP mid), vI 9] σ = some (rR 0 v 2, σ) := by
  have hA := args_eq (g := 0) (p := p) (v := v) (by omega) (by omega) hv
  have hW := way_no M0 oneF (aM 0 p v) (aM 0 p v) 1 0 v kOne rfl (by omega) rfl
  have hR := one_run_val M0.ok M0.ok rfl (mem_mid M0) (aM 0 p v) v hW
  have hm := mem_mid M0
  refine Run_of M0.ok M0.ok rfl oneF one_ok mid hm 9 (by omega) one_check [0, (p : Int), v] rfl ?_ 0 v 2 _ (hA ▸ hR)
  intro x hx
  simp only [List.mem_cons, List.not_mem_nil, or_false] at hx
  omega
omit B in
theorem Run_two_no (hp : p < 256) : call T F.eval_Run [vFunc twoF, vL (([0, (p : Int), v] : List Int).map ru), .one (cP mid), vI 9] σ = some (rR 0 v 2, σ) := by
  have hA := args_eq (g := 0) (p := p) (v := v) (by omega) (by omega) hv
  have hR := two_run_no M0.ok (mem_mid M0) (aM 0 p v) 0 v rfl (by omega) rfl
  have hm := mem_mid M0
  refine Run_of M0.ok M0.ok rfl twoF two_ok mid hm 9 (by omega) two_check [0, (p : Int), v] rfl ?_ 0 v 2 _ (hA ▸ hR)
  intro x hx
  simp only [List.mem_cons, List.not_mem_nil, or_false] at hx
  omega
end
end AC
