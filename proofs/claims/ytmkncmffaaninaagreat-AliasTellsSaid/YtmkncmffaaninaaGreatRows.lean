/-
  No cell of these rows narrows 'for every input' (looked for: loops, veiled, ifaces, maps, wideKeys, modest, calm, conditions, laid).
  DERIVED. THE GIVEN ROWS OF THIS SEAT. 12 by the template 'for every input the law returns true; each argument reads behind the call as it read before'; 0 by the template 'total and deterministic' (their statements: YtmkncmffaaninaaGreatTotals.lean).
  GIVEN WITH THE SEED: the statements are not yours to turn. If you find one false, say at which input.
  Laid BY PROGRAM, IN A SANDBOX (cutbox-rows.mjs): the forced cells as the released guide's own fill.sh prints them over the translation 68713c0b1db662d2… (all of the seat's roots in one cut). By AI agents, Wed Nov 11 2026. No macro, syntax, notation, axiom, sorry.
-/
import Derived.Test.YtmkncmffaaninaaGreatChecked
import GoSem.Claim
import GoSem.ClaimJoined
import GoSem.ClaimMapViews
import Derived.JoinedTies
import Derived.KernelRfl
namespace Go.Proofs.YtmkncmffaaninaaGreat
/- THE CELL 'sum', in the pinned program and in every row, IS THE sha256 OF THE DUMP (.gsa) THAT YtmkncmffaaninaaGreatProg.lean LOADS. Nothing in Lean hashes anything: it is a label: what it is worth is what the hold of that sum in a sandbox is worth. -/
noncomputable def Tryz.pinned : Pinned := { name := "ytmkncmffaaninaagreat", sum := "68713c0b1db662d2ea4b034f33e19ea51d357036b83616d1f1b5035f900a7820", checked := Tryz.checked }
namespace Rows
def none {H : Type} : Left H := { results := [], args := [] }

/-- 'locksteplaw19.SchedTells': WHATEVER THE INPUT: true; the input reads as it did. -/
def schedTellsSpec : ChangeSpec := { name := "schedTells", fn := fun _ => fun
  | [d1, d2] => { results := [.lit (.bool true)], args := [d1, d2] }
  | _ => none }
def schedTellsRow : OpenClaim := { program := "ytmkncmffaaninaagreat", sum := "68713c0b1db662d2ea4b034f33e19ea51d357036b83616d1f1b5035f900a7820", func := "lockstep/locksteplaw19.SchedTells", spec := "schedTells", unfollowed := true, recurses := true, apart := false }
def SchedTellsSaid : Prop := schedTellsRow.holds Tryz.pinned (OpenSpec.ofChange schedTellsSpec)

/-- ITS FALSE NEIGHBOUR: 'it returns false'. Refute it at one input. -/
def schedTellsWrong : ChangeSpec := { name := "schedTells", fn := fun _ => fun
  | [d1, d2] => { results := [.lit (.bool false)], args := [d1, d2] }
  | _ => none }
def SchedTellsWrongFalsely : Prop := schedTellsRow.holds Tryz.pinned (OpenSpec.ofChange schedTellsWrong)

/-- 'locksteplaw19.SchedFlat': WHATEVER THE INPUT: true; the input reads as it did. -/
def schedFlatSpec : ChangeSpec := { name := "schedFlat", fn := fun _ => fun
  | [d1, d2] => { results := [.lit (.bool true)], args := [d1, d2] }
  | _ => none }
def schedFlatRow : OpenClaim := { program := "ytmkncmffaaninaagreat", sum := "68713c0b1db662d2ea4b034f33e19ea51d357036b83616d1f1b5035f900a7820", func := "lockstep/locksteplaw19.SchedFlat", spec := "schedFlat", unfollowed := true, recurses := true, apart := false }
def SchedFlatSaid : Prop := schedFlatRow.holds Tryz.pinned (OpenSpec.ofChange schedFlatSpec)

/-- ITS FALSE NEIGHBOUR: 'it returns false'. Refute it at one input. -/
def schedFlatWrong : ChangeSpec := { name := "schedFlat", fn := fun _ => fun
  | [d1, d2] => { results := [.lit (.bool false)], args := [d1, d2] }
  | _ => none }
def SchedFlatWrongFalsely : Prop := schedFlatRow.holds Tryz.pinned (OpenSpec.ofChange schedFlatWrong)

/-- 'locksteplaw19.SchedDepth': WHATEVER THE INPUT: true; the input reads as it did. -/
def schedDepthSpec : ChangeSpec := { name := "schedDepth", fn := fun _ => fun
  | [d1, d2] => { results := [.lit (.bool true)], args := [d1, d2] }
  | _ => none }
def schedDepthRow : OpenClaim := { program := "ytmkncmffaaninaagreat", sum := "68713c0b1db662d2ea4b034f33e19ea51d357036b83616d1f1b5035f900a7820", func := "lockstep/locksteplaw19.SchedDepth", spec := "schedDepth", unfollowed := true, recurses := true, apart := false }
def SchedDepthSaid : Prop := schedDepthRow.holds Tryz.pinned (OpenSpec.ofChange schedDepthSpec)

/-- ITS FALSE NEIGHBOUR: 'it returns false'. Refute it at one input. -/
def schedDepthWrong : ChangeSpec := { name := "schedDepth", fn := fun _ => fun
  | [d1, d2] => { results := [.lit (.bool false)], args := [d1, d2] }
  | _ => none }
def SchedDepthWrongFalsely : Prop := schedDepthRow.holds Tryz.pinned (OpenSpec.ofChange schedDepthWrong)

/-- 'locksteplaw19.SchedBack': WHATEVER THE INPUT: true; the input reads as it did. -/
def schedBackSpec : ChangeSpec := { name := "schedBack", fn := fun _ => fun
  | [d1, d2] => { results := [.lit (.bool true)], args := [d1, d2] }
  | _ => none }
def schedBackRow : OpenClaim := { program := "ytmkncmffaaninaagreat", sum := "68713c0b1db662d2ea4b034f33e19ea51d357036b83616d1f1b5035f900a7820", func := "lockstep/locksteplaw19.SchedBack", spec := "schedBack", unfollowed := true, recurses := true, apart := false }
def SchedBackSaid : Prop := schedBackRow.holds Tryz.pinned (OpenSpec.ofChange schedBackSpec)

/-- ITS FALSE NEIGHBOUR: 'it returns false'. Refute it at one input. -/
def schedBackWrong : ChangeSpec := { name := "schedBack", fn := fun _ => fun
  | [d1, d2] => { results := [.lit (.bool false)], args := [d1, d2] }
  | _ => none }
def SchedBackWrongFalsely : Prop := schedBackRow.holds Tryz.pinned (OpenSpec.ofChange schedBackWrong)

/-- 'locksteplaw17.AffineFinds': WHATEVER THE INPUT: true; the input reads as it did. -/
def affineFindsSpec : ChangeSpec := { name := "affineFinds", fn := fun _ => fun
  | [d1, d2] => { results := [.lit (.bool true)], args := [d1, d2] }
  | _ => none }
def affineFindsRow : OpenClaim := { program := "ytmkncmffaaninaagreat", sum := "68713c0b1db662d2ea4b034f33e19ea51d357036b83616d1f1b5035f900a7820", func := "lockstep/locksteplaw17.AffineFinds", spec := "affineFinds", unfollowed := true, recurses := true, apart := false }
def AffineFindsSaid : Prop := affineFindsRow.holds Tryz.pinned (OpenSpec.ofChange affineFindsSpec)

/-- ITS FALSE NEIGHBOUR: 'it returns false'. Refute it at one input. -/
def affineFindsWrong : ChangeSpec := { name := "affineFinds", fn := fun _ => fun
  | [d1, d2] => { results := [.lit (.bool false)], args := [d1, d2] }
  | _ => none }
def AffineFindsWrongFalsely : Prop := affineFindsRow.holds Tryz.pinned (OpenSpec.ofChange affineFindsWrong)

/-- 'locksteplaw18.AliasTells': WHATEVER THE INPUT: true; the input reads as it did. -/
def aliasTellsSpec : ChangeSpec := { name := "aliasTells", fn := fun _ => fun
  | [d1, d2] => { results := [.lit (.bool true)], args := [d1, d2] }
  | _ => none }
def aliasTellsRow : OpenClaim := { program := "ytmkncmffaaninaagreat", sum := "68713c0b1db662d2ea4b034f33e19ea51d357036b83616d1f1b5035f900a7820", func := "lockstep/locksteplaw18.AliasTells", spec := "aliasTells", unfollowed := true, recurses := true, apart := false }
def AliasTellsSaid : Prop := aliasTellsRow.holds Tryz.pinned (OpenSpec.ofChange aliasTellsSpec)

/-- ITS FALSE NEIGHBOUR: 'it returns false'. Refute it at one input. -/
def aliasTellsWrong : ChangeSpec := { name := "aliasTells", fn := fun _ => fun
  | [d1, d2] => { results := [.lit (.bool false)], args := [d1, d2] }
  | _ => none }
def AliasTellsWrongFalsely : Prop := aliasTellsRow.holds Tryz.pinned (OpenSpec.ofChange aliasTellsWrong)

/-- 'locksteplaw18.AliasBoth': WHATEVER THE INPUT: true; the input reads as it did. -/
def aliasBothSpec : ChangeSpec := { name := "aliasBoth", fn := fun _ => fun
  | [d1, d2] => { results := [.lit (.bool true)], args := [d1, d2] }
  | _ => none }
def aliasBothRow : OpenClaim := { program := "ytmkncmffaaninaagreat", sum := "68713c0b1db662d2ea4b034f33e19ea51d357036b83616d1f1b5035f900a7820", func := "lockstep/locksteplaw18.AliasBoth", spec := "aliasBoth", unfollowed := true, recurses := true, apart := false }
def AliasBothSaid : Prop := aliasBothRow.holds Tryz.pinned (OpenSpec.ofChange aliasBothSpec)

/-- ITS FALSE NEIGHBOUR: 'it returns false'. Refute it at one input. -/
def aliasBothWrong : ChangeSpec := { name := "aliasBoth", fn := fun _ => fun
  | [d1, d2] => { results := [.lit (.bool false)], args := [d1, d2] }
  | _ => none }
def AliasBothWrongFalsely : Prop := aliasBothRow.holds Tryz.pinned (OpenSpec.ofChange aliasBothWrong)

/-- 'locksteplaw23.LowerMakes': WHATEVER THE INPUT: true; the input reads as it did. -/
def lowerMakesSpec : ChangeSpec := { name := "lowerMakes", fn := fun _ => fun
  | [d] => { results := [.lit (.bool true)], args := [d] }
  | _ => none }
def lowerMakesRow : OpenClaim := { program := "ytmkncmffaaninaagreat", sum := "68713c0b1db662d2ea4b034f33e19ea51d357036b83616d1f1b5035f900a7820", func := "lockstep/locksteplaw23.LowerMakes", spec := "lowerMakes", unfollowed := true, recurses := true, apart := false }
def LowerMakesSaid : Prop := lowerMakesRow.holds Tryz.pinned (OpenSpec.ofChange lowerMakesSpec)

/-- ITS FALSE NEIGHBOUR: 'it returns false'. Refute it at one input. -/
def lowerMakesWrong : ChangeSpec := { name := "lowerMakes", fn := fun _ => fun
  | [d] => { results := [.lit (.bool false)], args := [d] }
  | _ => none }
def LowerMakesWrongFalsely : Prop := lowerMakesRow.holds Tryz.pinned (OpenSpec.ofChange lowerMakesWrong)

/-- 'locksteplaw23.LowerScalar': WHATEVER THE INPUT: true; the input reads as it did. -/
def lowerScalarSpec : ChangeSpec := { name := "lowerScalar", fn := fun _ => fun
  | [d] => { results := [.lit (.bool true)], args := [d] }
  | _ => none }
def lowerScalarRow : OpenClaim := { program := "ytmkncmffaaninaagreat", sum := "68713c0b1db662d2ea4b034f33e19ea51d357036b83616d1f1b5035f900a7820", func := "lockstep/locksteplaw23.LowerScalar", spec := "lowerScalar", unfollowed := true, recurses := true, apart := false }
def LowerScalarSaid : Prop := lowerScalarRow.holds Tryz.pinned (OpenSpec.ofChange lowerScalarSpec)

/-- ITS FALSE NEIGHBOUR: 'it returns false'. Refute it at one input. -/
def lowerScalarWrong : ChangeSpec := { name := "lowerScalar", fn := fun _ => fun
  | [d] => { results := [.lit (.bool false)], args := [d] }
  | _ => none }
def LowerScalarWrongFalsely : Prop := lowerScalarRow.holds Tryz.pinned (OpenSpec.ofChange lowerScalarWrong)

/-- 'locksteplaw23.LowerMore': WHATEVER THE INPUT: true; the input reads as it did. -/
def lowerMoreSpec : ChangeSpec := { name := "lowerMore", fn := fun _ => fun
  | [d] => { results := [.lit (.bool true)], args := [d] }
  | _ => none }
def lowerMoreRow : OpenClaim := { program := "ytmkncmffaaninaagreat", sum := "68713c0b1db662d2ea4b034f33e19ea51d357036b83616d1f1b5035f900a7820", func := "lockstep/locksteplaw23.LowerMore", spec := "lowerMore", unfollowed := true, recurses := true, apart := false }
def LowerMoreSaid : Prop := lowerMoreRow.holds Tryz.pinned (OpenSpec.ofChange lowerMoreSpec)

/-- ITS FALSE NEIGHBOUR: 'it returns false'. Refute it at one input. -/
def lowerMoreWrong : ChangeSpec := { name := "lowerMore", fn := fun _ => fun
  | [d] => { results := [.lit (.bool false)], args := [d] }
  | _ => none }
def LowerMoreWrongFalsely : Prop := lowerMoreRow.holds Tryz.pinned (OpenSpec.ofChange lowerMoreWrong)

/-- 'locksteplaw24.SplitMakes': WHATEVER THE INPUT: true; the input reads as it did. -/
def splitMakesSpec : ChangeSpec := { name := "splitMakes", fn := fun _ => fun
  | [d] => { results := [.lit (.bool true)], args := [d] }
  | _ => none }
def splitMakesRow : OpenClaim := { program := "ytmkncmffaaninaagreat", sum := "68713c0b1db662d2ea4b034f33e19ea51d357036b83616d1f1b5035f900a7820", func := "lockstep/locksteplaw24.SplitMakes", spec := "splitMakes", unfollowed := true, recurses := true, apart := false }
def SplitMakesSaid : Prop := splitMakesRow.holds Tryz.pinned (OpenSpec.ofChange splitMakesSpec)

/-- ITS FALSE NEIGHBOUR: 'it returns false'. Refute it at one input. -/
def splitMakesWrong : ChangeSpec := { name := "splitMakes", fn := fun _ => fun
  | [d] => { results := [.lit (.bool false)], args := [d] }
  | _ => none }
def SplitMakesWrongFalsely : Prop := splitMakesRow.holds Tryz.pinned (OpenSpec.ofChange splitMakesWrong)

/-- 'locksteplaw24.SplitBlocks': WHATEVER THE INPUT: true; the input reads as it did. -/
def splitBlocksSpec : ChangeSpec := { name := "splitBlocks", fn := fun _ => fun
  | [d] => { results := [.lit (.bool true)], args := [d] }
  | _ => none }
def splitBlocksRow : OpenClaim := { program := "ytmkncmffaaninaagreat", sum := "68713c0b1db662d2ea4b034f33e19ea51d357036b83616d1f1b5035f900a7820", func := "lockstep/locksteplaw24.SplitBlocks", spec := "splitBlocks", unfollowed := true, recurses := true, apart := false }
def SplitBlocksSaid : Prop := splitBlocksRow.holds Tryz.pinned (OpenSpec.ofChange splitBlocksSpec)

/-- ITS FALSE NEIGHBOUR: 'it returns false'. Refute it at one input. -/
def splitBlocksWrong : ChangeSpec := { name := "splitBlocks", fn := fun _ => fun
  | [d] => { results := [.lit (.bool false)], args := [d] }
  | _ => none }
def SplitBlocksWrongFalsely : Prop := splitBlocksRow.holds Tryz.pinned (OpenSpec.ofChange splitBlocksWrong)

/- THE SECOND FORM. 'bulk': how many values and letters a reading holds, each counted each time it is reached (what is shared counts as often as it is met; a slice's spare places count too). A statement '..UptoSaid' is the law's where the arguments, and the package variables that the reading takes, are together of bulk at most 1048576: NARROWER than '..Said'. Prove '..Said' where nothing that the law and all that it calls make is longer than what came in: it says more and counts as full. Else prove '..UptoSaid'. A law counts once. -/
mutual
def uptoBulk {H : Type} : DataW H → Nat
  | .lit (.string bytes) => bytes.length + 1
  | .lit _ => 1
  | .nil => 1
  | .ptr d => uptoBulk d + 1
  | .slice elems spare => uptoBulkAll elems + uptoBulkAll spare + 1
  | .agg parts => uptoBulkAll parts + 1
  | .iface _ d => uptoBulk d + 1
  | .map entries => uptoBulkEntries entries + 1
  | .held _ => 1
def uptoBulkAll {H : Type} : List (DataW H) → Nat
  | [] => 0
  | d :: r => uptoBulk d + uptoBulkAll r
def uptoBulkEntries {H : Type} : List (Lit × DataW H) → Nat
  | [] => 0
  | x :: r => uptoBulkEntry x + uptoBulkEntries r
def uptoBulkEntry {H : Type} : Lit × DataW H → Nat
  | (.string bytes, d) => bytes.length + uptoBulk d + 1
  | (_, d) => uptoBulk d + 1
 end
def uptoSmall : (H : Type) → List (DataW H) → Bool := fun _ ds => decide (uptoBulkAll ds ≤ 1048576)
def OpenSpec.upto (s : _root_.Go.ChangeSpec) : _root_.Go.OpenSpec := { _root_.Go.OpenSpec.ofChange s with cond := some uptoSmall }

/-- 'locksteplaw19.SchedTells', WHERE WHAT IT READS IS OF BULK AT MOST 1048576: true; the input reads as it did. -/
def schedTellsUptoRow : OpenClaim := { program := "ytmkncmffaaninaagreat", sum := "68713c0b1db662d2ea4b034f33e19ea51d357036b83616d1f1b5035f900a7820", func := "lockstep/locksteplaw19.SchedTells", spec := "schedTells", unfollowed := true, recurses := true, apart := false, narrowed := true }
def SchedTellsUptoSaid : Prop := schedTellsUptoRow.holds Tryz.pinned (OpenSpec.upto schedTellsSpec)

/-- 'locksteplaw19.SchedFlat', WHERE WHAT IT READS IS OF BULK AT MOST 1048576: true; the input reads as it did. -/
def schedFlatUptoRow : OpenClaim := { program := "ytmkncmffaaninaagreat", sum := "68713c0b1db662d2ea4b034f33e19ea51d357036b83616d1f1b5035f900a7820", func := "lockstep/locksteplaw19.SchedFlat", spec := "schedFlat", unfollowed := true, recurses := true, apart := false, narrowed := true }
def SchedFlatUptoSaid : Prop := schedFlatUptoRow.holds Tryz.pinned (OpenSpec.upto schedFlatSpec)

/-- 'locksteplaw19.SchedDepth', WHERE WHAT IT READS IS OF BULK AT MOST 1048576: true; the input reads as it did. -/
def schedDepthUptoRow : OpenClaim := { program := "ytmkncmffaaninaagreat", sum := "68713c0b1db662d2ea4b034f33e19ea51d357036b83616d1f1b5035f900a7820", func := "lockstep/locksteplaw19.SchedDepth", spec := "schedDepth", unfollowed := true, recurses := true, apart := false, narrowed := true }
def SchedDepthUptoSaid : Prop := schedDepthUptoRow.holds Tryz.pinned (OpenSpec.upto schedDepthSpec)

/-- 'locksteplaw19.SchedBack', WHERE WHAT IT READS IS OF BULK AT MOST 1048576: true; the input reads as it did. -/
def schedBackUptoRow : OpenClaim := { program := "ytmkncmffaaninaagreat", sum := "68713c0b1db662d2ea4b034f33e19ea51d357036b83616d1f1b5035f900a7820", func := "lockstep/locksteplaw19.SchedBack", spec := "schedBack", unfollowed := true, recurses := true, apart := false, narrowed := true }
def SchedBackUptoSaid : Prop := schedBackUptoRow.holds Tryz.pinned (OpenSpec.upto schedBackSpec)

/-- 'locksteplaw17.AffineFinds', WHERE WHAT IT READS IS OF BULK AT MOST 1048576: true; the input reads as it did. -/
def affineFindsUptoRow : OpenClaim := { program := "ytmkncmffaaninaagreat", sum := "68713c0b1db662d2ea4b034f33e19ea51d357036b83616d1f1b5035f900a7820", func := "lockstep/locksteplaw17.AffineFinds", spec := "affineFinds", unfollowed := true, recurses := true, apart := false, narrowed := true }
def AffineFindsUptoSaid : Prop := affineFindsUptoRow.holds Tryz.pinned (OpenSpec.upto affineFindsSpec)

/-- 'locksteplaw18.AliasTells', WHERE WHAT IT READS IS OF BULK AT MOST 1048576: true; the input reads as it did. -/
def aliasTellsUptoRow : OpenClaim := { program := "ytmkncmffaaninaagreat", sum := "68713c0b1db662d2ea4b034f33e19ea51d357036b83616d1f1b5035f900a7820", func := "lockstep/locksteplaw18.AliasTells", spec := "aliasTells", unfollowed := true, recurses := true, apart := false, narrowed := true }
def AliasTellsUptoSaid : Prop := aliasTellsUptoRow.holds Tryz.pinned (OpenSpec.upto aliasTellsSpec)

/-- 'locksteplaw18.AliasBoth', WHERE WHAT IT READS IS OF BULK AT MOST 1048576: true; the input reads as it did. -/
def aliasBothUptoRow : OpenClaim := { program := "ytmkncmffaaninaagreat", sum := "68713c0b1db662d2ea4b034f33e19ea51d357036b83616d1f1b5035f900a7820", func := "lockstep/locksteplaw18.AliasBoth", spec := "aliasBoth", unfollowed := true, recurses := true, apart := false, narrowed := true }
def AliasBothUptoSaid : Prop := aliasBothUptoRow.holds Tryz.pinned (OpenSpec.upto aliasBothSpec)

/-- 'locksteplaw23.LowerMakes', WHERE WHAT IT READS IS OF BULK AT MOST 1048576: true; the input reads as it did. -/
def lowerMakesUptoRow : OpenClaim := { program := "ytmkncmffaaninaagreat", sum := "68713c0b1db662d2ea4b034f33e19ea51d357036b83616d1f1b5035f900a7820", func := "lockstep/locksteplaw23.LowerMakes", spec := "lowerMakes", unfollowed := true, recurses := true, apart := false, narrowed := true }
def LowerMakesUptoSaid : Prop := lowerMakesUptoRow.holds Tryz.pinned (OpenSpec.upto lowerMakesSpec)

/-- 'locksteplaw23.LowerScalar', WHERE WHAT IT READS IS OF BULK AT MOST 1048576: true; the input reads as it did. -/
def lowerScalarUptoRow : OpenClaim := { program := "ytmkncmffaaninaagreat", sum := "68713c0b1db662d2ea4b034f33e19ea51d357036b83616d1f1b5035f900a7820", func := "lockstep/locksteplaw23.LowerScalar", spec := "lowerScalar", unfollowed := true, recurses := true, apart := false, narrowed := true }
def LowerScalarUptoSaid : Prop := lowerScalarUptoRow.holds Tryz.pinned (OpenSpec.upto lowerScalarSpec)

/-- 'locksteplaw23.LowerMore', WHERE WHAT IT READS IS OF BULK AT MOST 1048576: true; the input reads as it did. -/
def lowerMoreUptoRow : OpenClaim := { program := "ytmkncmffaaninaagreat", sum := "68713c0b1db662d2ea4b034f33e19ea51d357036b83616d1f1b5035f900a7820", func := "lockstep/locksteplaw23.LowerMore", spec := "lowerMore", unfollowed := true, recurses := true, apart := false, narrowed := true }
def LowerMoreUptoSaid : Prop := lowerMoreUptoRow.holds Tryz.pinned (OpenSpec.upto lowerMoreSpec)

/-- 'locksteplaw24.SplitMakes', WHERE WHAT IT READS IS OF BULK AT MOST 1048576: true; the input reads as it did. -/
def splitMakesUptoRow : OpenClaim := { program := "ytmkncmffaaninaagreat", sum := "68713c0b1db662d2ea4b034f33e19ea51d357036b83616d1f1b5035f900a7820", func := "lockstep/locksteplaw24.SplitMakes", spec := "splitMakes", unfollowed := true, recurses := true, apart := false, narrowed := true }
def SplitMakesUptoSaid : Prop := splitMakesUptoRow.holds Tryz.pinned (OpenSpec.upto splitMakesSpec)

/-- 'locksteplaw24.SplitBlocks', WHERE WHAT IT READS IS OF BULK AT MOST 1048576: true; the input reads as it did. -/
def splitBlocksUptoRow : OpenClaim := { program := "ytmkncmffaaninaagreat", sum := "68713c0b1db662d2ea4b034f33e19ea51d357036b83616d1f1b5035f900a7820", func := "lockstep/locksteplaw24.SplitBlocks", spec := "splitBlocks", unfollowed := true, recurses := true, apart := false, narrowed := true }
def SplitBlocksUptoSaid : Prop := splitBlocksUptoRow.holds Tryz.pinned (OpenSpec.upto splitBlocksSpec)

end Rows
end Go.Proofs.YtmkncmffaaninaaGreat
