import Derived.Test.YtecjccggbbbaaaaGreatKD
import Derived.Test.YtecjccggbbbaaaaGreatData
set_option linter.unusedVariables false
set_option linter.unusedSimpArgs false
set_option linter.unusedSectionVars false
namespace AC
open Go Go.A Go.A.Lex
def vSh (s : Int × Int) : V := .agg [.f (ei s.1), .f (ei s.2)]
abbrev SMap := List (Int × (Int × Int))
def putAll : SMap → DMap → SMap
  | S, [] => S
  | S, e :: r => putAll (putM e.1 e.2.shape S) r
theorem copy_all : ∀ (D : DMap) (S : SMap), copyInto 2 (some 2) 4 (encM vDef D) (encM vSh S) = some (encM vSh (putAll S D))
  | [], S => rfl
  | e :: r, S => by
    have hc : ∀ l : List (Int × PDef), encM vDef (e :: l) = (e.1, vDef e.2) :: encM vDef l := fun _ => rfl
    rw [hc, copyInto]
    have h1 : (vDef e.2).cells.length = 4 ∧ C.kns (vDef e.2).cells = true := ⟨rfl, rfl⟩
    rw [if_pos h1]
    have h2 : afld 2 (some 2) (vDef e.2) = some (vSh e.2.shape) := rfl
    rw [h2, Option.bind_some, mput_enc, copy_all r, putAll]
theorem get_putM {α : Type} (k v : Int) (a : α) : ∀ S : List (Int × α), getM v (putM k a S) = if k = v then some a else getM v S
  | [] => rfl
  | e :: r => by
    simp only [putM]
    by_cases h : e.1 = k
    · rw [if_pos h]
      simp only [getM, h]
      by_cases h2 : k = v
      · rw [if_pos h2, if_pos h2]
      · rw [if_neg h2, if_neg h2, if_neg h2]
    · rw [if_neg h]
      simp only [getM]
      by_cases h2 : e.1 = v
      · rw [if_pos h2, if_pos h2, if_neg (by omega)]
      · rw [if_neg h2, if_neg h2, get_putM k v a r]
theorem get_notin {α : Type} {v : Int} : ∀ {S : List (Int × α)}, v ∉ S.map Prod.fst → getM v S = none
  | [], _ => rfl
  | e :: r, h => by
    simp only [List.map_cons, List.mem_cons, not_or] at h
    rw [getM, if_neg (fun h2 => h.1 h2.symm), get_notin h.2]
theorem get_putAll (v : Int) : ∀ (D : DMap) (S : SMap), (D.map Prod.fst).Nodup → getM v (putAll S D) = match getM v D with
    | some d => some d.shape
    | none => getM v S
  | [], S, _ => rfl
  | e :: r, S, h => by
    simp only [List.map_cons, List.nodup_cons] at h
    rw [putAll, get_putAll v r _ h.2, getM, get_putM]
    by_cases h2 : e.1 = v
    · rw [if_pos h2, if_pos h2, get_notin (h2 ▸ h.1)]
    · rw [if_neg h2, if_neg h2]
theorem keys_putM {α : Type} (k : Int) (a : α) : ∀ S : List (Int × α), (putM k a S).map Prod.fst = if k ∈ S.map Prod.fst then S.map Prod.fst else S.map Prod.fst ++ [k]
  | [] => by simp [putM]
  | e :: r => by
    simp only [putM]
    by_cases h : e.1 = k
    · rw [if_pos h]; simp [h]
    · rw [if_neg h, List.map_cons, keys_putM k a r]
      by_cases h2 : k ∈ r.map Prod.fst
      · rw [if_pos h2, if_pos (by rw [List.map_cons]; exact List.mem_cons_of_mem _ h2), List.map_cons]
      · rw [if_neg h2, if_neg (by rw [List.map_cons, List.mem_cons]; rintro (h3 | h3); exact h h3.symm; exact h2 h3)]; rfl
theorem nodup_putM {α : Type} (k : Int) (a : α) {S : List (Int × α)} (h : (S.map Prod.fst).Nodup) : ((putM k a S).map Prod.fst).Nodup := by
  rw [keys_putM]
  split
  · exact h
  · rename_i h2
    rw [List.nodup_append]
    refine ⟨h, by simp, fun x hx y hy => ?_⟩
    rw [List.mem_singleton] at hy
    intro e
    exact h2 (by rw [← hy, ← e]; exact hx)
theorem nodup_params : ∀ (l : List Int) (i : Nat) (D : DMap), (D.map Prod.fst).Nodup → ((putParams i D l).map Prod.fst).Nodup
  | [], _, _, h => h
  | _ :: r, _, _, h => nodup_params r _ _ (nodup_putM _ _ h)
theorem nodup_phis (i : Int) : ∀ (l : List PPhi) (D : DMap), (D.map Prod.fst).Nodup → ((putPhis i D l).1.map Prod.fst).Nodup
  | [], _, h => h
  | p :: r, D, h => by
    unfold putPhis
    split
    · exact h
    · split
      · exact nodup_phis i r _ (nodup_putM _ _ h)
      · exact nodup_putM _ _ h
theorem nodup_ops (i : Int) : ∀ (l : List POp) (k : Nat) (D : DMap), (D.map Prod.fst).Nodup → ((putOps i k D l).1.map Prod.fst).Nodup
  | [], _, _, h => h
  | p :: r, k, D, h => by
    unfold putOps
    split
    · exact nodup_ops i r _ _ h
    · split
      · exact nodup_ops i r _ _ (nodup_putM _ _ h)
      · exact nodup_putM _ _ h
theorem nodup_blocks : ∀ (l : List PBlock) (i : Nat) (D : DMap), (D.map Prod.fst).Nodup → ((putBlocks i D l).1.map Prod.fst).Nodup
  | [], _, _, h => h
  | b :: r, i, D, h => by
    unfold putBlocks
    have h1 := nodup_phis i b.phis D h
    split
    · rename_i e; rw [e] at h1; exact h1
    · rename_i D1 e
      rw [e] at h1
      have h2 := nodup_ops i b.ops 0 D1 h1
      split
      · rename_i e2; rw [e2] at h2; exact h2
      · rename_i e2; rw [e2] at h2; exact nodup_blocks r _ _ h2
theorem nodup_dmap (f : PFunc) : ((dmapS f).1.map Prod.fst).Nodup := nodup_blocks _ _ _ (nodup_params _ _ _ (by simp))
/-- Each value's shape, where a function is right. -/
def shapesS (f : PFunc) : SMap := putAll [] (dmapS f).1
theorem shift_encM {α : Type} (enc : α → V) (n : Nat) (h : ∀ a, (enc a).shift n = enc a) : ∀ D : List (Int × α), List.map (fun e => (e.fst, V.shift n e.snd)) (encM enc D) = encM enc D
  | [] => rfl
  | e :: r => by
    have ih := shift_encM enc n h r
    unfold encM at ih ⊢
    simp only [List.map_cons, h, ih]
theorem shift_def (n : Nat) (D : DMap) : List.map (fun e => (e.fst, V.shift n e.snd)) (encM vDef D) = encM vDef D := shift_encM vDef n (fun _ => rfl) D
theorem shift_sh (n : Nat) (D : SMap) : List.map (fun e => (e.fst, V.shift n e.snd)) (encM vSh D) = encM vSh D := shift_encM vSh n (fun _ => rfl) D
abbrev shSt (f : PFunc) (tree : List Int) : Store := [O0 f, O0 f, .cells 0 8 [[.f (.sl (f.params.map ri)), .f (.lit (.int .i64 f.ret)), .f (.sl (f.blocks.map rb)), .f (.lit (.int .i64 2)), .f (.sl ((succS f).map rl)), .f (.sl ((predsS (succS f)).map rl)), .f (.sl (tree.map ri)), .map 5]],
  .cells 0 1 [[.fn F.check_checker_shape [.ptr 2 0 0 0] []], [.fn F.check_checker_typed [.ptr 2 0 0 0] []], [.fn F.check_checker_defined [.ptr 2 0 0 0] []], [.fn F.check_checker_shapes [.ptr 2 0 0 0] []], [.fn F.check_checker_places [.ptr 2 0 0 0] []]],
  .cells 0 1 [[.ptr 2 0 0 0]], .mp (encM vDef (dmapS f).1), .mp (encM vSh (shapesS f))]
theorem Shapes_ok (f : PFunc) (hf : okF f) (tree : List Int) (hT : TreeIs f tree) (h0 : lookS f 2 tree = 0) :
    call T F.check_Shapes [vFunc f] [] = some (.one (.map 6), shSt f tree) := by
  rw [call_eq (fn := a_check_Shapes) rfl]
  obtain ⟨σ', h, h'⟩ := look_call f hf 2 tree hT
  rw [h' h0, h0] at h
  have hc : copyInto 2 (some 2) 4 (encM vDef (dmapS f).1) [] = some (encM vSh (shapesS f)) := copy_all (dmapS f).1 []
  simp -implicitDefEqProofs only [go_sem] at h
  simp -implicitDefEqProofs only [go_sem, a_check_Shapes, h, exec_spec, specE, specTo, shift_def, hc, vSh, shSt]
end AC
