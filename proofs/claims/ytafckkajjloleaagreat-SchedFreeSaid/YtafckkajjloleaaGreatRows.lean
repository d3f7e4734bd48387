/-
  No cell of these rows narrows 'for every input' (looked for: loops, veiled, ifaces, maps, wideKeys, modest, calm, conditions, laid).
  DERIVED. THE GIVEN ROWS OF THIS SEAT. 10 by the template 'for every input the law returns true; each argument reads behind the call as it read before'; 0 by the template 'total and deterministic' (their statements: YtafckkajjloleaaGreatTotals.lean).
  GIVEN WITH THE SEED: the statements are not yours to turn. If you find one false, say at which input.
  Laid BY PROGRAM, IN A SANDBOX (cutbox-rows.mjs): the forced cells as the released guide's own fill.sh prints them over the translation 9cf63115bc284fb2… (all of the seat's roots in one cut). By AI agents, Wed Nov 11 2026. No macro, syntax, notation, axiom, sorry.
-/
import Derived.Test.YtafckkajjloleaaGreatChecked
import GoSem.Claim
import GoSem.ClaimJoined
import GoSem.ClaimMapViews
import Derived.JoinedTies
import Derived.KernelRfl
namespace Go.Proofs.YtafckkajjloleaaGreat
/- THE CELL 'sum', in the pinned program and in every row, IS THE sha256 OF THE DUMP (.gsa) THAT YtafckkajjloleaaGreatProg.lean LOADS. Nothing in Lean hashes anything: it is a label: what it is worth is what the hold of that sum in a sandbox is worth. -/
noncomputable def Tryz.pinned : Pinned := { name := "ytafckkajjloleaagreat", sum := "9cf63115bc284fb2d5e03394fbb36311375196919f3826a97b4dc5de542d3673", checked := Tryz.checked }
namespace Rows
def none {H : Type} : Left H := { results := [], args := [] }

/-- 'locksteplaw19.SchedTells': WHATEVER THE INPUT: true; the input reads as it did. -/
def schedTellsSpec : ChangeSpec := { name := "schedTells", fn := fun _ => fun
  | [d1, d2] => { results := [.lit (.bool true)], args := [d1, d2] }
  | _ => none }
def schedTellsRow : OpenClaim := { program := "ytafckkajjloleaagreat", sum := "9cf63115bc284fb2d5e03394fbb36311375196919f3826a97b4dc5de542d3673", func := "lockstep/locksteplaw19.SchedTells", spec := "schedTells", unfollowed := true, recurses := true, apart := false }
def SchedTellsSaid : Prop := schedTellsRow.holds Tryz.pinned (OpenSpec.ofChange schedTellsSpec)

/-- ITS FALSE NEIGHBOUR: 'it returns false'. Refute it at one input. -/
def schedTellsWrong : ChangeSpec := { name := "schedTells", fn := fun _ => fun
  | [d1, d2] => { results := [.lit (.bool false)], args := [d1, d2] }
  | _ => none }
def SchedTellsWrongFalsely : Prop := schedTellsRow.holds Tryz.pinned (OpenSpec.ofChange schedTellsWrong)

/-- 'locksteplaw19.SchedFlat': WHATEVER THE INPUT: true; the input reads as it did. -/
def schedFlatSpec : ChangeSpec := { name := "schedFlat", fn := fun _ => fun
  | [d1, d2] => { results := [.lit (.bool true)], args := [d1, d2] }
  | _ => none }
def schedFlatRow : OpenClaim := { program := "ytafckkajjloleaagreat", sum := "9cf63115bc284fb2d5e03394fbb36311375196919f3826a97b4dc5de542d3673", func := "lockstep/locksteplaw19.SchedFlat", spec := "schedFlat", unfollowed := true, recurses := true, apart := false }
def SchedFlatSaid : Prop := schedFlatRow.holds Tryz.pinned (OpenSpec.ofChange schedFlatSpec)

/-- ITS FALSE NEIGHBOUR: 'it returns false'. Refute it at one input. -/
def schedFlatWrong : ChangeSpec := { name := "schedFlat", fn := fun _ => fun
  | [d1, d2] => { results := [.lit (.bool false)], args := [d1, d2] }
  | _ => none }
def SchedFlatWrongFalsely : Prop := schedFlatRow.holds Tryz.pinned (OpenSpec.ofChange schedFlatWrong)

/-- 'locksteplaw19.SchedDepth': WHATEVER THE INPUT: true; the input reads as it did. -/
def schedDepthSpec : ChangeSpec := { name := "schedDepth", fn := fun _ => fun
  | [d1, d2] => { results := [.lit (.bool true)], args := [d1, d2] }
  | _ => none }
def schedDepthRow : OpenClaim := { program := "ytafckkajjloleaagreat", sum := "9cf63115bc284fb2d5e03394fbb36311375196919f3826a97b4dc5de542d3673", func := "lockstep/locksteplaw19.SchedDepth", spec := "schedDepth", unfollowed := true, recurses := true, apart := false }
def SchedDepthSaid : Prop := schedDepthRow.holds Tryz.pinned (OpenSpec.ofChange schedDepthSpec)

/-- ITS FALSE NEIGHBOUR: 'it returns false'. Refute it at one input. -/
def schedDepthWrong : ChangeSpec := { name := "schedDepth", fn := fun _ => fun
  | [d1, d2] => { results := [.lit (.bool false)], args := [d1, d2] }
  | _ => none }
def SchedDepthWrongFalsely : Prop := schedDepthRow.holds Tryz.pinned (OpenSpec.ofChange schedDepthWrong)

/-- 'locksteplaw19.SchedBack': WHATEVER THE INPUT: true; the input reads as it did. -/
def schedBackSpec : ChangeSpec := { name := "schedBack", fn := fun _ => fun
  | [d1, d2] => { results := [.lit (.bool true)], args := [d1, d2] }
  | _ => none }
def schedBackRow : OpenClaim := { program := "ytafckkajjloleaagreat", sum := "9cf63115bc284fb2d5e03394fbb36311375196919f3826a97b4dc5de542d3673", func := "lockstep/locksteplaw19.SchedBack", spec := "schedBack", unfollowed := true, recurses := true, apart := false }
def SchedBackSaid : Prop := schedBackRow.holds Tryz.pinned (OpenSpec.ofChange schedBackSpec)

/-- ITS FALSE NEIGHBOUR: 'it returns false'. Refute it at one input. -/
def schedBackWrong : ChangeSpec := { name := "schedBack", fn := fun _ => fun
  | [d1, d2] => { results := [.lit (.bool false)], args := [d1, d2] }
  | _ => none }
def SchedBackWrongFalsely : Prop := schedBackRow.holds Tryz.pinned (OpenSpec.ofChange schedBackWrong)

/-- 'locksteplaw19.SchedFree': WHATEVER THE INPUT: true; the input reads as it did. -/
def schedFreeSpec : ChangeSpec := { name := "schedFree", fn := fun _ => fun
  | [d] => { results := [.lit (.bool true)], args := [d] }
  | _ => none }
def schedFreeRow : OpenClaim := { program := "ytafckkajjloleaagreat", sum := "9cf63115bc284fb2d5e03394fbb36311375196919f3826a97b4dc5de542d3673", func := "lockstep/locksteplaw19.SchedFree", spec := "schedFree", unfollowed := true, recurses := true, apart := false }
def SchedFreeSaid : Prop := schedFreeRow.holds Tryz.pinned (OpenSpec.ofChange schedFreeSpec)

/-- ITS FALSE NEIGHBOUR: 'it returns false'. Refute it at one input. -/
def schedFreeWrong : ChangeSpec := { name := "schedFree", fn := fun _ => fun
  | [d] => { results := [.lit (.bool false)], args := [d] }
  | _ => none }
def SchedFreeWrongFalsely : Prop := schedFreeRow.holds Tryz.pinned (OpenSpec.ofChange schedFreeWrong)

/-- 'locksteplaw17.AffineSums': WHATEVER THE INPUT: true; the input reads as it did. -/
def affineSumsSpec : ChangeSpec := { name := "affineSums", fn := fun _ => fun
  | [d1, d2, d3] => { results := [.lit (.bool true)], args := [d1, d2, d3] }
  | _ => none }
def affineSumsRow : OpenClaim := { program := "ytafckkajjloleaagreat", sum := "9cf63115bc284fb2d5e03394fbb36311375196919f3826a97b4dc5de542d3673", func := "lockstep/locksteplaw17.AffineSums", spec := "affineSums", unfollowed := true, recurses := true, apart := false }
def AffineSumsSaid : Prop := affineSumsRow.holds Tryz.pinned (OpenSpec.ofChange affineSumsSpec)

/-- ITS FALSE NEIGHBOUR: 'it returns false'. Refute it at one input. -/
def affineSumsWrong : ChangeSpec := { name := "affineSums", fn := fun _ => fun
  | [d1, d2, d3] => { results := [.lit (.bool false)], args := [d1, d2, d3] }
  | _ => none }
def AffineSumsWrongFalsely : Prop := affineSumsRow.holds Tryz.pinned (OpenSpec.ofChange affineSumsWrong)

/-- 'locksteplaw17.AffineFinds': WHATEVER THE INPUT: true; the input reads as it did. -/
def affineFindsSpec : ChangeSpec := { name := "affineFinds", fn := fun _ => fun
  | [d1, d2] => { results := [.lit (.bool true)], args := [d1, d2] }
  | _ => none }
def affineFindsRow : OpenClaim := { program := "ytafckkajjloleaagreat", sum := "9cf63115bc284fb2d5e03394fbb36311375196919f3826a97b4dc5de542d3673", func := "lockstep/locksteplaw17.AffineFinds", spec := "affineFinds", unfollowed := true, recurses := true, apart := false }
def AffineFindsSaid : Prop := affineFindsRow.holds Tryz.pinned (OpenSpec.ofChange affineFindsSpec)

/-- ITS FALSE NEIGHBOUR: 'it returns false'. Refute it at one input. -/
def affineFindsWrong : ChangeSpec := { name := "affineFinds", fn := fun _ => fun
  | [d1, d2] => { results := [.lit (.bool false)], args := [d1, d2] }
  | _ => none }
def AffineFindsWrongFalsely : Prop := affineFindsRow.holds Tryz.pinned (OpenSpec.ofChange affineFindsWrong)

/-- 'locksteplaw17.AffineRing': WHATEVER THE INPUT: true; the input reads as it did. -/
def affineRingSpec : ChangeSpec := { name := "affineRing", fn := fun _ => fun
  | [d1, d2, d3] => { results := [.lit (.bool true)], args := [d1, d2, d3] }
  | _ => none }
def affineRingRow : OpenClaim := { program := "ytafckkajjloleaagreat", sum := "9cf63115bc284fb2d5e03394fbb36311375196919f3826a97b4dc5de542d3673", func := "lockstep/locksteplaw17.AffineRing", spec := "affineRing", unfollowed := true, recurses := true, apart := false }
def AffineRingSaid : Prop := affineRingRow.holds Tryz.pinned (OpenSpec.ofChange affineRingSpec)

/-- ITS FALSE NEIGHBOUR: 'it returns false'. Refute it at one input. -/
def affineRingWrong : ChangeSpec := { name := "affineRing", fn := fun _ => fun
  | [d1, d2, d3] => { results := [.lit (.bool false)], args := [d1, d2, d3] }
  | _ => none }
def AffineRingWrongFalsely : Prop := affineRingRow.holds Tryz.pinned (OpenSpec.ofChange affineRingWrong)

/-- 'locksteplaw17.AffineSteps': WHATEVER THE INPUT: true; the input reads as it did. -/
def affineStepsSpec : ChangeSpec := { name := "affineSteps", fn := fun _ => fun
  | [d1, d2, d3] => { results := [.lit (.bool true)], args := [d1, d2, d3] }
  | _ => none }
def affineStepsRow : OpenClaim := { program := "ytafckkajjloleaagreat", sum := "9cf63115bc284fb2d5e03394fbb36311375196919f3826a97b4dc5de542d3673", func := "lockstep/locksteplaw17.AffineSteps", spec := "affineSteps", unfollowed := true, recurses := true, apart := false }
def AffineStepsSaid : Prop := affineStepsRow.holds Tryz.pinned (OpenSpec.ofChange affineStepsSpec)

/-- ITS FALSE NEIGHBOUR: 'it returns false'. Refute it at one input. -/
def affineStepsWrong : ChangeSpec := { name := "affineSteps", fn := fun _ => fun
  | [d1, d2, d3] => { results := [.lit (.bool false)], args := [d1, d2, d3] }
  | _ => none }
def AffineStepsWrongFalsely : Prop := affineStepsRow.holds Tryz.pinned (OpenSpec.ofChange affineStepsWrong)

/-- 'locksteplaw17.AffineScales': WHATEVER THE INPUT: true; the input reads as it did. -/
def affineScalesSpec : ChangeSpec := { name := "affineScales", fn := fun _ => fun
  | [d1, d2] => { results := [.lit (.bool true)], args := [d1, d2] }
  | _ => none }
def affineScalesRow : OpenClaim := { program := "ytafckkajjloleaagreat", sum := "9cf63115bc284fb2d5e03394fbb36311375196919f3826a97b4dc5de542d3673", func := "lockstep/locksteplaw17.AffineScales", spec := "affineScales", unfollowed := true, recurses := true, apart := false }
def AffineScalesSaid : Prop := affineScalesRow.holds Tryz.pinned (OpenSpec.ofChange affineScalesSpec)

/-- ITS FALSE NEIGHBOUR: 'it returns false'. Refute it at one input. -/
def affineScalesWrong : ChangeSpec := { name := "affineScales", fn := fun _ => fun
  | [d1, d2] => { results := [.lit (.bool false)], args := [d1, d2] }
  | _ => none }
def AffineScalesWrongFalsely : Prop := affineScalesRow.holds Tryz.pinned (OpenSpec.ofChange affineScalesWrong)

/- THE SECOND FORM. 'bulk': how many values and letters a reading holds, each counted each time it is reached (what is shared counts as often as it is met; a slice's spare places count too). A statement '..UptoSaid' is the law's where the arguments, and the package variables that the reading takes, are together of bulk at most 1048576: NARROWER than '..Said'. Prove '..Said' where nothing that the law and all that it calls make is longer than what came in: it says more and counts as full. Else prove '..UptoSaid'. A law counts once. -/
mutual
def uptoBulk {H : Type} : DataW H → Nat
  | .lit (.string bytes) => bytes.length + 1
  | .lit _ => 1
  | .nil => 1
  | .ptr d => uptoBulk d + 1
  | .slice elems spare => uptoBulkAll elems + uptoBulkAll spare + 1
  | .agg parts => uptoBulkAll parts + 1
  | .iface _ d => uptoBulk d + 1
  | .map entries => uptoBulkEntries entries + 1
  | .held _ => 1
def uptoBulkAll {H : Type} : List (DataW H) → Nat
  | [] => 0
  | d :: r => uptoBulk d + uptoBulkAll r
def uptoBulkEntries {H : Type} : List (Lit × DataW H) → Nat
  | [] => 0
  | x :: r => uptoBulkEntry x + uptoBulkEntries r
def uptoBulkEntry {H : Type} : Lit × DataW H → Nat
  | (.string bytes, d) => bytes.length + uptoBulk d + 1
  | (_, d) => uptoBulk d + 1
 end
def uptoSmall : (H : Type) → List (DataW H) → Bool := fun _ ds => decide (uptoBulkAll ds ≤ 1048576)
def OpenSpec.upto (s : _root_.Go.ChangeSpec) : _root_.Go.OpenSpec := { _root_.Go.OpenSpec.ofChange s with cond := some uptoSmall }

/-- 'locksteplaw19.SchedTells', WHERE WHAT IT READS IS OF BULK AT MOST 1048576: true; the input reads as it did. -/
def schedTellsUptoRow : OpenClaim := { program := "ytafckkajjloleaagreat", sum := "9cf63115bc284fb2d5e03394fbb36311375196919f3826a97b4dc5de542d3673", func := "lockstep/locksteplaw19.SchedTells", spec := "schedTells", unfollowed := true, recurses := true, apart := false, narrowed := true }
def SchedTellsUptoSaid : Prop := schedTellsUptoRow.holds Tryz.pinned (OpenSpec.upto schedTellsSpec)

/-- 'locksteplaw19.SchedFlat', WHERE WHAT IT READS IS OF BULK AT MOST 1048576: true; the input reads as it did. -/
def schedFlatUptoRow : OpenClaim := { program := "ytafckkajjloleaagreat", sum := "9cf63115bc284fb2d5e03394fbb36311375196919f3826a97b4dc5de542d3673", func := "lockstep/locksteplaw19.SchedFlat", spec := "schedFlat", unfollowed := true, recurses := true, apart := false, narrowed := true }
def SchedFlatUptoSaid : Prop := schedFlatUptoRow.holds Tryz.pinned (OpenSpec.upto schedFlatSpec)

/-- 'locksteplaw19.SchedDepth', WHERE WHAT IT READS IS OF BULK AT MOST 1048576: true; the input reads as it did. -/
def schedDepthUptoRow : OpenClaim := { program := "ytafckkajjloleaagreat", sum := "9cf63115bc284fb2d5e03394fbb36311375196919f3826a97b4dc5de542d3673", func := "lockstep/locksteplaw19.SchedDepth", spec := "schedDepth", unfollowed := true, recurses := true, apart := false, narrowed := true }
def SchedDepthUptoSaid : Prop := schedDepthUptoRow.holds Tryz.pinned (OpenSpec.upto schedDepthSpec)

/-- 'locksteplaw19.SchedBack', WHERE WHAT IT READS IS OF BULK AT MOST 1048576: true; the input reads as it did. -/
def schedBackUptoRow : OpenClaim := { program := "ytafckkajjloleaagreat", sum := "9cf63115bc284fb2d5e03394fbb36311375196919f3826a97b4dc5de542d3673", func := "lockstep/locksteplaw19.SchedBack", spec := "schedBack", unfollowed := true, recurses := true, apart := false, narrowed := true }
def SchedBackUptoSaid : Prop := schedBackUptoRow.holds Tryz.pinned (OpenSpec.upto schedBackSpec)

/-- 'locksteplaw19.SchedFree', WHERE WHAT IT READS IS OF BULK AT MOST 1048576: true; the input reads as it did. -/
def schedFreeUptoRow : OpenClaim := { program := "ytafckkajjloleaagreat", sum := "9cf63115bc284fb2d5e03394fbb36311375196919f3826a97b4dc5de542d3673", func := "lockstep/locksteplaw19.SchedFree", spec := "schedFree", unfollowed := true, recurses := true, apart := false, narrowed := true }
def SchedFreeUptoSaid : Prop := schedFreeUptoRow.holds Tryz.pinned (OpenSpec.upto schedFreeSpec)

/-- 'locksteplaw17.AffineSums', WHERE WHAT IT READS IS OF BULK AT MOST 1048576: true; the input reads as it did. -/
def affineSumsUptoRow : OpenClaim := { program := "ytafckkajjloleaagreat", sum := "9cf63115bc284fb2d5e03394fbb36311375196919f3826a97b4dc5de542d3673", func := "lockstep/locksteplaw17.AffineSums", spec := "affineSums", unfollowed := true, recurses := true, apart := false, narrowed := true }
def AffineSumsUptoSaid : Prop := affineSumsUptoRow.holds Tryz.pinned (OpenSpec.upto affineSumsSpec)

/-- 'locksteplaw17.AffineFinds', WHERE WHAT IT READS IS OF BULK AT MOST 1048576: true; the input reads as it did. -/
def affineFindsUptoRow : OpenClaim := { program := "ytafckkajjloleaagreat", sum := "9cf63115bc284fb2d5e03394fbb36311375196919f3826a97b4dc5de542d3673", func := "lockstep/locksteplaw17.AffineFinds", spec := "affineFinds", unfollowed := true, recurses := true, apart := false, narrowed := true }
def AffineFindsUptoSaid : Prop := affineFindsUptoRow.holds Tryz.pinned (OpenSpec.upto affineFindsSpec)

/-- 'locksteplaw17.AffineRing', WHERE WHAT IT READS IS OF BULK AT MOST 1048576: true; the input reads as it did. -/
def affineRingUptoRow : OpenClaim := { program := "ytafckkajjloleaagreat", sum := "9cf63115bc284fb2d5e03394fbb36311375196919f3826a97b4dc5de542d3673", func := "lockstep/locksteplaw17.AffineRing", spec := "affineRing", unfollowed := true, recurses := true, apart := false, narrowed := true }
def AffineRingUptoSaid : Prop := affineRingUptoRow.holds Tryz.pinned (OpenSpec.upto affineRingSpec)

/-- 'locksteplaw17.AffineSteps', WHERE WHAT IT READS IS OF BULK AT MOST 1048576: true; the input reads as it did. -/
def affineStepsUptoRow : OpenClaim := { program := "ytafckkajjloleaagreat", sum := "9cf63115bc284fb2d5e03394fbb36311375196919f3826a97b4dc5de542d3673", func := "lockstep/locksteplaw17.AffineSteps", spec := "affineSteps", unfollowed := true, recurses := true, apart := false, narrowed := true }
def AffineStepsUptoSaid : Prop := affineStepsUptoRow.holds Tryz.pinned (OpenSpec.upto affineStepsSpec)

/-- 'locksteplaw17.AffineScales', WHERE WHAT IT READS IS OF BULK AT MOST 1048576: true; the input reads as it did. -/
def affineScalesUptoRow : OpenClaim := { program := "ytafckkajjloleaagreat", sum := "9cf63115bc284fb2d5e03394fbb36311375196919f3826a97b4dc5de542d3673", func := "lockstep/locksteplaw17.AffineScales", spec := "affineScales", unfollowed := true, recurses := true, apart := false, narrowed := true }
def AffineScalesUptoSaid : Prop := affineScalesUptoRow.holds Tryz.pinned (OpenSpec.upto affineScalesSpec)

end Rows
end Go.Proofs.YtafckkajjloleaaGreat
