/- A part of the proof of SchedDepth. Conditions: none. -/
import Derived.Test.YtmkncmffaaninaaGreatDAM
import GoSem.ClaimChange
import Derived.DataReads
import Derived.ProofKit
import Derived.Test.YtmkncmffaaninaaGreatDBI
import Derived.Test.YtmkncmffaaninaaGreatRows
set_option linter.unusedVariables false
set_option linter.unusedSimpArgs false
set_option linter.unusedSectionVars false
open List renaming getElem?_append → ya
namespace Go.A
def zh9 : List (List Fz → Prop) → List Fz → Prop
 | [],cs => cs = []
 | p :: ps,cs => ∃ a b,cs = a ++ b ∧ p a ∧ zh9 ps b
def ztF (P : Program) : List Field → Nat → Nat → Bool
 | [],off,total => off == total
 | f :: fs,off,total => f.offset == off && ztF P fs (off + P.cellsOf f.type) total
def zgO (P : Program) : Nat → TypeId → Bool
 | 0,_ => false
 | n + 1,t => match P.underlying t with
   | some .bool => P.cellsOf t == 1
   | some (.int _) => P.cellsOf t == 1
   | some (.slice e) => P.cellsOf t == 1 && decide (0 < P.cellsOf e) && zgO P n e
   | some (.struct fs) => (fs.toList.all fun f => zgO P n f.type) && ztF P fs.toList 0 (P.cellsOf t)
   | some (.array m e) => zgO P n e && (P.cellsOf t == m * P.cellsOf e)
   | _ => false
theorem mapM_some {α β : Type} {f : α → Option β} : ∀ {l : List α} {ys : List β},l.mapM f = some ys → ys.length = l.length ∧ ∀ (i : Nat) (x : α),l[i]? = some x → ∃ y,ys[i]? = some y ∧ f x = some y
 | [],ys,h => by
   simp at h
   subst h
   exact ⟨rfl,fun i x hx => by simp at hx⟩
 | a :: l,ys,h => by
   rw [List.mapM_cons] at h
   cases ha : f a with
   | none => simp [ha] at h
   | some b =>
     cases hl : l.mapM f with
     | none => simp [ha,hl] at h
     | some zs =>
       simp [ha,hl] at h
       subst h
       obtain ⟨h1,h2⟩:=mapM_some hl
       refine ⟨by simp [h1],fun i x hx => ?_⟩
       cases i with
       | zero => simp at hx; subst hx; exact ⟨b,by simp,ha⟩
       | succ i => simpa using h2 i x (by simpa using hx)
theorem zov {α : Type} {p : Nat → α → Prop} : ∀ (n : Nat),(∀ i,i < n → ∃ x,p i x) → ∃ xs : List α,xs.length = n ∧ ∀ i x,xs[i]? = some x → p i x
 | 0,_ => ⟨[],rfl,fun i x h => by simp at h⟩
 | n + 1,h => by
   obtain ⟨xs,h1,h2⟩:=zov n fun i hi => h i (by omega)
   obtain ⟨x,hx⟩:=h n (by omega)
   refine ⟨xs ++ [x],by simp [h1],fun i y hy => ?_⟩
   rw [ya] at hy
   split at hy
   ·exact h2 i y hy
   ·rename_i hi
    have:=zb hy
    simp at this
    have e : i = n:=by omega
    subst e
    rw [h1] at hy
    simp at hy
    rw [← hy]
    exact hx
section
variable {H : Type} {enc : TypeId × Value → H} {P : Program} {w : World}
def zrX (w : World) : zf1:=fun b _ => b < w.heap.size
def zfq (w : World) (xs : List Fz) (cs : List Value) : Prop:=xs.length = cs.length ∧ ∀ (j : Nat) (x : Fz) (u : Value),xs[j]? = some x → cs[j]? = some u → rep w (zrX w) x u
theorem zfq.append {xs ys : List Fz} {cs ds : List Value} (h : zfq w xs cs) (k : zfq w ys ds) : zfq w (xs ++ ys) (cs ++ ds):=by
 refine ⟨by simp [h.1,k.1],fun j x u hx hu => ?_⟩
 rw [ya] at hx hu
 have:=h.1
 split at hx
 ·rw [if_pos (by omega)] at hu; exact h.2 j x u hx hu
 ·rw [if_neg (by omega)] at hu; rw [h.1] at hx; exact k.2 _ x u hx hu
theorem zfq.one {x : Fz} {u : Value} (h : rep w (zrX w) x u) : zfq w [x] [u] :=
 ⟨rfl,fun j y v hy hv => by
  cases j with
  | zero => simp at hy hv; rw [← hy,← hv]; exact h
  | succ j => simp at hy⟩
end
end Go.A
namespace Go.A
open Go.RowKit
def G0 (w : World) : G:=⟨fun _ => 0,fun _ _ => undef,fun _ => .no,zrX w⟩
theorem zFZ (w : World) : Rel (G0 w) w []:=⟨fun _ _ h => h,fun id o h => by simp at h⟩
def zkE (P : Program) (t : TypeId) : Bool:=match P.underlying t with
 | some (.struct _) | some (.array _ _) => true
 | _ => false
def zo1 (agg : Bool) (xs : List Fz) : V:=if agg then zAq xs else .one (.f (xs.headD (.lit undef)))
section
variable {H : Type} {enc : TypeId × Value → H} {P : Program} {w : World}
theorem zxn {C : zad} (S : zgQ P C) {f : Nat} {args : List V} {us : List Value} {b : Bool} (hc : C f args [] = some (ziV b,[])) (hv : zz (G0 w) w [] args us) :
  Calls P f us.toArray w fun e w' => e = .returned (.bool b) ∧ Below w.heap.size w w':=by
 obtain ⟨_,h⟩:=S f args [] (ziV b) [] hc
 refine (h (G0 w) w us (zFZ w) hv).mono fun e w' he => ?_
 obtain ⟨u,g',rfl,h1,_,H⟩:=he
 obtain ⟨rfl,_⟩:=zA h1
 exact ⟨rfl,H.os,H.tape,H.output,H.size,fun k hk => H.frame k hk rfl⟩
end
end Go.A
namespace Go.A
open Go.RowKit Go.ChangeShapes
section
variable {H : Type} {enc : TypeId × Value → H} {P : Program}
theorem zxv {f : Func} {s : ChangeSpec} {apart fresh handsOn again : Bool} {W W' : World} {args : Array Value} {v : Value} {ds gs : List (DataW H)} {before : List MemPlace}
  (hW : DataW.Whole enc P f.params.toList s.vars apart W args.toList ds gs before) (hB : Below W.heap.size W W') (hv : s.vars = [])
  (hres : ∀ (b : Nat) (sp : Nat → Bool) (hd : Bool),DataW.TrodAll enc P W' b sp hd f.resultTypes.toList (v.resultList f.resultTypes.size) (s.fn H (ds ++ gs)).results [])
  (hargs : ∀ sp : Nat → Bool,(∀ p ∈ before,sp p.block = true) → DataW.TrodAll enc P W' 0 sp true f.params.toList args.toList (s.fn H (ds ++ gs)).args before)
  (hvars : (s.fn H (ds ++ gs)).vars = [])
  (hok : ∀ (j : Nat) (t : TypeId) (r : Value),f.resultTypes[j]? = some t → (v.resultList f.resultTypes.size)[j]? = some r → Value.okWide P W' .any 0 t r) :
  s.post enc P f apart fresh handsOn again W args v W':=by
 have inside : ∀ x ∈ before,x.block < W.heap.size:=hW.lt
 have mine : ∀ x ∈ before,(fun b => decide (b < W.heap.size)) x.block = true:=fun x hx => decide_eq_true (inside x hx)
 have nv : ∀ sp : Nat → Bool,DataW.TrodVars enc P W' sp s.vars (s.fn H (ds ++ gs)).vars []:=fun sp => by rw [hv,hvars]; rfl
 have whole:=hW
 obtain ⟨_,_,_,_,_,unfrozen,once⟩:=hW
 refine ⟨ds,gs,before,[],before,[],whole,hres _ _ _,hargs _ mine,nv _,World.keptBut_mono (fun x hx => ⟨hx,.inr (by simpa using hx)⟩) (hB.frame _),fun _ => ⟨hok,_,_,before,⟨before,[],trodAll_append (hargs _ fun _ _ => rfl) (hres _ _ _),nv _,by simp,fun b off hx => ?_,once⟩,fun x hx _ => by simpa using hx⟩⟩
 rw [hB.frozen (p:=⟨b,off,none⟩) (inside _ hx)]
 exact unfrozen b off hx
end
end Go.A
namespace Go.A
open Go.RowKit Go.ChangeShapes
section
variable {H : Type} {enc : TypeId × Value → H} {P : Program}
end
end Go.A
namespace AC
open Go Go.A Go.Proofs
set_option maxRecDepth 100000
theorem mixed : Tryz.prog.follows .mixedOrders = true:=by kernel_rfl
theorem zDB : zgQ Tryz.prog (call T):=sound (zvG mixed) zFW
end AC
namespace Go.Proofs.YtmkncmffaaninaaGreat
open Go.ChangeShapes Go.WideShapes Go.ChangeAt Go.RowKit Go.A
theorem Tryz.own : ownKnob Tryz.prog.godebug = none:=by kernel_rfl
theorem Tryz.laidOut : laidOutB Tryz.prog = true:=by kernel_rfl
end Go.Proofs.YtmkncmffaaninaaGreat
