/- A part of the proof of AliasBoth. Conditions: none. -/
import Derived.Test.YtmkncmffaaninaaGreatAAK
import GoSem.ClaimChange
import Derived.DataReads
import Derived.ProofKit
import Derived.Test.YtmkncmffaaninaaGreatABG
import Derived.Test.YtmkncmffaaninaaGreatRows
set_option linter.all false
open List renaming getElem?_append → ya
namespace Go.A
def zfw : List (List Fz → Prop) → List Fz → Prop
 | [],cs => cs = []
 | p :: ps,cs => ∃ a b,cs = a ++ b ∧ p a ∧ zfw ps b
def zrA (P : Program) : List Field → Nat → Nat → Bool
 | [],off,total => off == total
 | f :: fs,off,total => f.offset == off && zrA P fs (off + P.cellsOf f.type) total
def zeX (P : Program) : Nat → TypeId → Bool
 | 0,_ => false
 | n + 1,t => match P.underlying t with
   | some .bool => P.cellsOf t == 1
   | some (.int _) => P.cellsOf t == 1
   | some (.slice e) => P.cellsOf t == 1 && decide (0 < P.cellsOf e) && zeX P n e
   | some (.struct fs) => (fs.toList.all fun f => zeX P n f.type) && zrA P fs.toList 0 (P.cellsOf t)
   | some (.array m e) => zeX P n e && (P.cellsOf t == m * P.cellsOf e)
   | _ => false
theorem mapM_some {α β : Type} {f : α → Option β} : ∀ {l : List α} {ys : List β},l.mapM f = some ys → ys.length = l.length ∧ ∀ (i : Nat) (x : α),l[i]? = some x → ∃ y,ys[i]? = some y ∧ f x = some y
 | [],ys,h => by
   simp at h;subst h;exact ⟨rfl,fun i x c => by simp at c⟩
 | a :: l,ys,h => by
   rw [List.mapM_cons] at h
   cases d : f a with
   | none => simp [d] at h
   | some b =>
     cases e : l.mapM f with
     | none => simp [d,e] at h
     | some zs =>
       simp [d,e] at h;subst h;obtain ⟨j,g⟩:=mapM_some e;refine ⟨by simp [j],fun i x c => ?_⟩
       cases i with
       | zero => simp at c; subst c; exact ⟨b,by simp,d⟩
       | succ i => simpa using g i x (by simpa using c)
theorem znr {α : Type} {p : Nat → α → Prop} : ∀ (n : Nat),(∀ i,i < n → ∃ x,p i x) → ∃ xs : List α,xs.length = n ∧ ∀ i x,xs[i]? = some x → p i x
 | 0,_ => ⟨[],rfl,fun i x h => by simp at h⟩
 | n + 1,h => by
   obtain ⟨xs,b,c⟩:=znr n fun i d => h i (by omega);obtain ⟨x,f⟩:=h n (by omega);refine ⟨xs ++ [x],by simp [b],fun i y a => ?_⟩;rw [ya] at a;split at a
   ·exact c i y a
   ·rename_i d
    have:=za a;simp at this;have e : i = n:=(by omega);subst e;rw [b] at a;simp at a;rw [← a];exact f
section
variable {H : Type} {enc : TypeId × Value → H} {P : Program} {w : World}
def zpB (w : World) : zeb:=fun b _ => b < w.heap.size
def zdu (w : World) (xs : List Fz) (cs : List Value) : Prop:=xs.length = cs.length ∧ ∀ (j : Nat) (x : Fz) (u : Value),xs[j]? = some x → cs[j]? = some u → rep w (zpB w) x u
theorem zdu.append {xs ys : List Fz} {cs ds : List Value} (h : zdu w xs cs) (k : zdu w ys ds) : zdu w (xs ++ ys) (cs ++ ds):=by
 refine ⟨by simp [h.1,k.1],fun j x u a hu => ?_⟩;rw [ya] at a hu;have:=h.1;split at a
 ·rw [if_pos (by omega)] at hu; exact h.2 j x u a hu
 ·rw [if_neg (by omega)] at hu; rw [h.1] at a; exact k.2 _ x u a hu
theorem zdu.one {x : Fz} {u : Value} (h : rep w (zpB w) x u) : zdu w [x] [u] :=
 ⟨rfl,fun j y v a b => by
  cases j with
  | zero => simp at a b; rw [← a,← b]; exact h
  | succ j => simp at a⟩
end
end Go.A
namespace Go.A
open Go.RowKit
def G0 (w : World) : G:=⟨fun _ => 0,fun _ _ => undef,fun _ => .no,zpB w⟩
theorem zDV (w : World) : Rel (G0 w) w []:=⟨fun _ _ h => h,fun id o h => by simp at h⟩
def ziT (P : Program) (t : TypeId) : Bool:=match P.underlying t with
 | some (.struct _) | some (.array _ _) => true
 | _ => false
def zlK (agg : Bool) (xs : List Fz) : V:=if agg then zym xs else .one (.f (xs.headD (.lit undef)))
section
variable {H : Type} {enc : TypeId × Value → H} {P : Program} {w : World}
theorem zuT {C : zL} (S : zen P C) {f : Nat} {args : List V} {us : List Value} {b : Bool} (a : C f args [] = some (zg4 b,[])) (c : zv (G0 w) w [] args us) :
  Calls P f us.toArray w fun e w' => e = .returned (.bool b) ∧ Below w.heap.size w w':=by
 obtain ⟨_,h⟩:=S f args [] (zg4 b) [] a;refine (h (G0 w) w us (zDV w) c).mono fun e w' he => ?_;obtain ⟨u,g',rfl,g,_,H⟩:=he;obtain ⟨rfl,_⟩:=zH g;exact ⟨rfl,H.os,H.tape,H.output,H.size,fun k d => H.frame k d rfl⟩
end
end Go.A
namespace Go.A
open Go.RowKit Go.ChangeShapes
section
variable {H : Type} {enc : TypeId × Value → H} {P : Program}
theorem zvl {f : Func} {s : ChangeSpec} {apart fresh handsOn again : Bool} {W h : World} {args : Array Value} {v : Value} {ds gs : List (DataW H)} {before : List MemPlace}
  (k : DataW.Whole enc P f.params.toList s.vars apart W args.toList ds gs before) (m : Below W.heap.size W h) (o : s.vars = [])
  (e : ∀ (b : Nat) (sp : Nat → Bool) (hd : Bool),DataW.TrodAll enc P h b sp hd f.resultTypes.toList (v.resultList f.resultTypes.size) (s.fn H (ds ++ gs)).results [])
  (c : ∀ sp : Nat → Bool,(∀ p ∈ before,sp p.block = true) → DataW.TrodAll enc P h 0 sp true f.params.toList args.toList (s.fn H (ds ++ gs)).args before)
  (g : (s.fn H (ds ++ gs)).vars = [])
  (l : ∀ (j : Nat) (t : TypeId) (r : Value),f.resultTypes[j]? = some t → (v.resultList f.resultTypes.size)[j]? = some r → Value.okWide P h .any 0 t r) :
  s.post enc P f apart fresh handsOn again W args v h:=by
 have inside : ∀ x ∈ before,x.block < W.heap.size:=k.lt;have i : ∀ x ∈ before,(fun b => decide (b < W.heap.size)) x.block = true:=fun x d => decide_eq_true (inside x d);have n : ∀ sp : Nat → Bool,DataW.TrodVars enc P h sp s.vars (s.fn H (ds ++ gs)).vars []:=fun sp => by rw [o,g]; rfl
 have whole:=k;obtain ⟨_,_,_,_,_,a,once⟩:=k;refine ⟨ds,gs,before,[],before,[],whole,e _ _ _,c _ i,n _,World.keptBut_mono (fun x d => ⟨d,.inr (by simpa using d)⟩) (m.frame _),fun _ => ⟨l,_,_,before,⟨before,[],trodAll_append (c _ fun _ _ => rfl) (e _ _ _),n _,by simp,fun b off d => ?_,once⟩,fun x d _ => by simpa using d⟩⟩;rw [m.frozen (p:=⟨b,off,none⟩) (inside _ d)];exact a b off d
end
section
variable {H : Type} {enc : TypeId × Value → H} {P : Program}
end
end Go.A
namespace AC
open Go Go.A Go.Proofs
set_option maxRecDepth 100000
theorem mixed : Tryz.prog.follows .mixedOrders = true:=by kernel_rfl
theorem zBt : zen Tryz.prog (call T):=sound (ztZ mixed) zD1
end AC
namespace Go.Proofs.YtmkncmffaaninaaGreat
open Go.ChangeShapes Go.WideShapes Go.ChangeAt Go.RowKit Go.A
theorem Tryz.own : ownKnob Tryz.prog.godebug = none:=by kernel_rfl
theorem Tryz.laidOut : laidOutB Tryz.prog = true:=by kernel_rfl
end Go.Proofs.YtmkncmffaaninaaGreat
