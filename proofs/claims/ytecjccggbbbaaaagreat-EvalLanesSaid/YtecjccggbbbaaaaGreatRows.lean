/-
  No cell of these rows narrows 'for every input' (looked for: loops, veiled, ifaces, maps, wideKeys, modest, calm, conditions, laid).
  DERIVED. THE GIVEN ROWS OF THIS SEAT. 10 by the template 'for every input the law returns true; each argument reads behind the call as it read before'; 0 by the template 'total and deterministic' (their statements: YtecjccggbbbaaaaGreatTotals.lean).
  GIVEN WITH THE SEED: the statements are not yours to turn. If you find one false, say at which input.
  Laid BY PROGRAM, IN A SANDBOX (cutbox-rows.mjs): the forced cells as the released guide's own fill.sh prints them over the translation cc4ec6be2939f594… (all of the seat's roots in one cut). By AI agents, Wed Nov 11 2026. No macro, syntax, notation, axiom, sorry.
-/
import Derived.Test.YtecjccggbbbaaaaGreatChecked
import GoSem.Claim
import GoSem.ClaimJoined
import GoSem.ClaimMapViews
import Derived.JoinedTies
import Derived.KernelRfl
namespace Go.Proofs.YtecjccggbbbaaaaGreat
/- THE CELL 'sum', in the pinned program and in every row, IS THE sha256 OF THE DUMP (.gsa) THAT YtecjccggbbbaaaaGreatProg.lean LOADS. Nothing in Lean hashes anything: it is a label: what it is worth is what the hold of that sum in a sandbox is worth. -/
noncomputable def Tryz.pinned : Pinned := { name := "ytecjccggbbbaaaagreat", sum := "cc4ec6be2939f594440aaf937b49e8cf3446f55c745c2084243c00b6ce98154e", checked := Tryz.checked }
namespace Rows
def none {H : Type} : Left H := { results := [], args := [] }

/-- 'locksteplaw18.AliasRow': WHATEVER THE INPUT: true; the input reads as it did. -/
def aliasRowSpec : ChangeSpec := { name := "aliasRow", fn := fun _ => fun
  | [d1, d2, d3] => { results := [.lit (.bool true)], args := [d1, d2, d3] }
  | _ => none }
def aliasRowRow : OpenClaim := { program := "ytecjccggbbbaaaagreat", sum := "cc4ec6be2939f594440aaf937b49e8cf3446f55c745c2084243c00b6ce98154e", func := "lockstep/locksteplaw18.AliasRow", spec := "aliasRow", unfollowed := true, recurses := true, apart := false }
def AliasRowSaid : Prop := aliasRowRow.holds Tryz.pinned (OpenSpec.ofChange aliasRowSpec)

/-- ITS FALSE NEIGHBOUR: 'it returns false'. Refute it at one input. -/
def aliasRowWrong : ChangeSpec := { name := "aliasRow", fn := fun _ => fun
  | [d1, d2, d3] => { results := [.lit (.bool false)], args := [d1, d2, d3] }
  | _ => none }
def AliasRowWrongFalsely : Prop := aliasRowRow.holds Tryz.pinned (OpenSpec.ofChange aliasRowWrong)

/-- 'locksteplaw18.AliasOther': WHATEVER THE INPUT: true; the input reads as it did. -/
def aliasOtherSpec : ChangeSpec := { name := "aliasOther", fn := fun _ => fun
  | [d1, d2] => { results := [.lit (.bool true)], args := [d1, d2] }
  | _ => none }
def aliasOtherRow : OpenClaim := { program := "ytecjccggbbbaaaagreat", sum := "cc4ec6be2939f594440aaf937b49e8cf3446f55c745c2084243c00b6ce98154e", func := "lockstep/locksteplaw18.AliasOther", spec := "aliasOther", unfollowed := true, recurses := true, apart := false }
def AliasOtherSaid : Prop := aliasOtherRow.holds Tryz.pinned (OpenSpec.ofChange aliasOtherSpec)

/-- ITS FALSE NEIGHBOUR: 'it returns false'. Refute it at one input. -/
def aliasOtherWrong : ChangeSpec := { name := "aliasOther", fn := fun _ => fun
  | [d1, d2] => { results := [.lit (.bool false)], args := [d1, d2] }
  | _ => none }
def AliasOtherWrongFalsely : Prop := aliasOtherRow.holds Tryz.pinned (OpenSpec.ofChange aliasOtherWrong)

/-- 'locksteplaw13.EvalTwo': WHATEVER THE INPUT: true; the input reads as it did. -/
def evalTwoSpec : ChangeSpec := { name := "evalTwo", fn := fun _ => fun
  | [d1, d2, d3] => { results := [.lit (.bool true)], args := [d1, d2, d3] }
  | _ => none }
def evalTwoRow : OpenClaim := { program := "ytecjccggbbbaaaagreat", sum := "cc4ec6be2939f594440aaf937b49e8cf3446f55c745c2084243c00b6ce98154e", func := "lockstep/locksteplaw13.EvalTwo", spec := "evalTwo", unfollowed := true, recurses := true, apart := false }
def EvalTwoSaid : Prop := evalTwoRow.holds Tryz.pinned (OpenSpec.ofChange evalTwoSpec)

/-- ITS FALSE NEIGHBOUR: 'it returns false'. Refute it at one input. -/
def evalTwoWrong : ChangeSpec := { name := "evalTwo", fn := fun _ => fun
  | [d1, d2, d3] => { results := [.lit (.bool false)], args := [d1, d2, d3] }
  | _ => none }
def EvalTwoWrongFalsely : Prop := evalTwoRow.holds Tryz.pinned (OpenSpec.ofChange evalTwoWrong)

/-- 'locksteplaw13.EvalLanes': WHATEVER THE INPUT: true; the input reads as it did. -/
def evalLanesSpec : ChangeSpec := { name := "evalLanes", fn := fun _ => fun
  | [d1, d2, d3] => { results := [.lit (.bool true)], args := [d1, d2, d3] }
  | _ => none }
def evalLanesRow : OpenClaim := { program := "ytecjccggbbbaaaagreat", sum := "cc4ec6be2939f594440aaf937b49e8cf3446f55c745c2084243c00b6ce98154e", func := "lockstep/locksteplaw13.EvalLanes", spec := "evalLanes", unfollowed := true, recurses := true, apart := false }
def EvalLanesSaid : Prop := evalLanesRow.holds Tryz.pinned (OpenSpec.ofChange evalLanesSpec)

/-- ITS FALSE NEIGHBOUR: 'it returns false'. Refute it at one input. -/
def evalLanesWrong : ChangeSpec := { name := "evalLanes", fn := fun _ => fun
  | [d1, d2, d3] => { results := [.lit (.bool false)], args := [d1, d2, d3] }
  | _ => none }
def EvalLanesWrongFalsely : Prop := evalLanesRow.holds Tryz.pinned (OpenSpec.ofChange evalLanesWrong)

/-- 'locksteplaw13.EvalLoops': WHATEVER THE INPUT: true; the input reads as it did. -/
def evalLoopsSpec : ChangeSpec := { name := "evalLoops", fn := fun _ => fun
  | [d1, d2] => { results := [.lit (.bool true)], args := [d1, d2] }
  | _ => none }
def evalLoopsRow : OpenClaim := { program := "ytecjccggbbbaaaagreat", sum := "cc4ec6be2939f594440aaf937b49e8cf3446f55c745c2084243c00b6ce98154e", func := "lockstep/locksteplaw13.EvalLoops", spec := "evalLoops", unfollowed := true, recurses := true, apart := false }
def EvalLoopsSaid : Prop := evalLoopsRow.holds Tryz.pinned (OpenSpec.ofChange evalLoopsSpec)

/-- ITS FALSE NEIGHBOUR: 'it returns false'. Refute it at one input. -/
def evalLoopsWrong : ChangeSpec := { name := "evalLoops", fn := fun _ => fun
  | [d1, d2] => { results := [.lit (.bool false)], args := [d1, d2] }
  | _ => none }
def EvalLoopsWrongFalsely : Prop := evalLoopsRow.holds Tryz.pinned (OpenSpec.ofChange evalLoopsWrong)

/-- 'locksteplaw13.EvalGuards': WHATEVER THE INPUT: true; the input reads as it did. -/
def evalGuardsSpec : ChangeSpec := { name := "evalGuards", fn := fun _ => fun
  | [d1, d2, d3] => { results := [.lit (.bool true)], args := [d1, d2, d3] }
  | _ => none }
def evalGuardsRow : OpenClaim := { program := "ytecjccggbbbaaaagreat", sum := "cc4ec6be2939f594440aaf937b49e8cf3446f55c745c2084243c00b6ce98154e", func := "lockstep/locksteplaw13.EvalGuards", spec := "evalGuards", unfollowed := true, recurses := true, apart := false }
def EvalGuardsSaid : Prop := evalGuardsRow.holds Tryz.pinned (OpenSpec.ofChange evalGuardsSpec)

/-- ITS FALSE NEIGHBOUR: 'it returns false'. Refute it at one input. -/
def evalGuardsWrong : ChangeSpec := { name := "evalGuards", fn := fun _ => fun
  | [d1, d2, d3] => { results := [.lit (.bool false)], args := [d1, d2, d3] }
  | _ => none }
def EvalGuardsWrongFalsely : Prop := evalGuardsRow.holds Tryz.pinned (OpenSpec.ofChange evalGuardsWrong)

/-- 'locksteplaw13.EvalTraps': WHATEVER THE INPUT: true; the input reads as it did. -/
def evalTrapsSpec : ChangeSpec := { name := "evalTraps", fn := fun _ => fun
  | [d1, d2, d3] => { results := [.lit (.bool true)], args := [d1, d2, d3] }
  | _ => none }
def evalTrapsRow : OpenClaim := { program := "ytecjccggbbbaaaagreat", sum := "cc4ec6be2939f594440aaf937b49e8cf3446f55c745c2084243c00b6ce98154e", func := "lockstep/locksteplaw13.EvalTraps", spec := "evalTraps", unfollowed := true, recurses := true, apart := false }
def EvalTrapsSaid : Prop := evalTrapsRow.holds Tryz.pinned (OpenSpec.ofChange evalTrapsSpec)

/-- ITS FALSE NEIGHBOUR: 'it returns false'. Refute it at one input. -/
def evalTrapsWrong : ChangeSpec := { name := "evalTraps", fn := fun _ => fun
  | [d1, d2, d3] => { results := [.lit (.bool false)], args := [d1, d2, d3] }
  | _ => none }
def EvalTrapsWrongFalsely : Prop := evalTrapsRow.holds Tryz.pinned (OpenSpec.ofChange evalTrapsWrong)

/-- 'locksteplaw20.PacksRow': WHATEVER THE INPUT: true; the input reads as it did. -/
def packsRowSpec : ChangeSpec := { name := "packsRow", fn := fun _ => fun
  | [d1, d2] => { results := [.lit (.bool true)], args := [d1, d2] }
  | _ => none }
def packsRowRow : OpenClaim := { program := "ytecjccggbbbaaaagreat", sum := "cc4ec6be2939f594440aaf937b49e8cf3446f55c745c2084243c00b6ce98154e", func := "lockstep/locksteplaw20.PacksRow", spec := "packsRow", unfollowed := true, recurses := true, apart := false }
def PacksRowSaid : Prop := packsRowRow.holds Tryz.pinned (OpenSpec.ofChange packsRowSpec)

/-- ITS FALSE NEIGHBOUR: 'it returns false'. Refute it at one input. -/
def packsRowWrong : ChangeSpec := { name := "packsRow", fn := fun _ => fun
  | [d1, d2] => { results := [.lit (.bool false)], args := [d1, d2] }
  | _ => none }
def PacksRowWrongFalsely : Prop := packsRowRow.holds Tryz.pinned (OpenSpec.ofChange packsRowWrong)

/-- 'locksteplaw20.PacksTwice': WHATEVER THE INPUT: true; the input reads as it did. -/
def packsTwiceSpec : ChangeSpec := { name := "packsTwice", fn := fun _ => fun
  | [d1, d2] => { results := [.lit (.bool true)], args := [d1, d2] }
  | _ => none }
def packsTwiceRow : OpenClaim := { program := "ytecjccggbbbaaaagreat", sum := "cc4ec6be2939f594440aaf937b49e8cf3446f55c745c2084243c00b6ce98154e", func := "lockstep/locksteplaw20.PacksTwice", spec := "packsTwice", unfollowed := true, recurses := true, apart := false }
def PacksTwiceSaid : Prop := packsTwiceRow.holds Tryz.pinned (OpenSpec.ofChange packsTwiceSpec)

/-- ITS FALSE NEIGHBOUR: 'it returns false'. Refute it at one input. -/
def packsTwiceWrong : ChangeSpec := { name := "packsTwice", fn := fun _ => fun
  | [d1, d2] => { results := [.lit (.bool false)], args := [d1, d2] }
  | _ => none }
def PacksTwiceWrongFalsely : Prop := packsTwiceRow.holds Tryz.pinned (OpenSpec.ofChange packsTwiceWrong)

/-- 'locksteplaw24.SplitSteps': WHATEVER THE INPUT: true; the input reads as it did. -/
def splitStepsSpec : ChangeSpec := { name := "splitSteps", fn := fun _ => fun
  | [d1, d2, d3] => { results := [.lit (.bool true)], args := [d1, d2, d3] }
  | _ => none }
def splitStepsRow : OpenClaim := { program := "ytecjccggbbbaaaagreat", sum := "cc4ec6be2939f594440aaf937b49e8cf3446f55c745c2084243c00b6ce98154e", func := "lockstep/locksteplaw24.SplitSteps", spec := "splitSteps", unfollowed := true, recurses := true, apart := false }
def SplitStepsSaid : Prop := splitStepsRow.holds Tryz.pinned (OpenSpec.ofChange splitStepsSpec)

/-- ITS FALSE NEIGHBOUR: 'it returns false'. Refute it at one input. -/
def splitStepsWrong : ChangeSpec := { name := "splitSteps", fn := fun _ => fun
  | [d1, d2, d3] => { results := [.lit (.bool false)], args := [d1, d2, d3] }
  | _ => none }
def SplitStepsWrongFalsely : Prop := splitStepsRow.holds Tryz.pinned (OpenSpec.ofChange splitStepsWrong)

/- THE SECOND FORM. 'bulk': how many values and letters a reading holds, each counted each time it is reached (what is shared counts as often as it is met; a slice's spare places count too). A statement '..UptoSaid' is the law's where the arguments, and the package variables that the reading takes, are together of bulk at most 1048576: NARROWER than '..Said'. Prove '..Said' where nothing that the law and all that it calls make is longer than what came in: it says more and counts as full. Else prove '..UptoSaid'. A law counts once. -/
mutual
def uptoBulk {H : Type} : DataW H → Nat
  | .lit (.string bytes) => bytes.length + 1
  | .lit _ => 1
  | .nil => 1
  | .ptr d => uptoBulk d + 1
  | .slice elems spare => uptoBulkAll elems + uptoBulkAll spare + 1
  | .agg parts => uptoBulkAll parts + 1
  | .iface _ d => uptoBulk d + 1
  | .map entries => uptoBulkEntries entries + 1
  | .held _ => 1
def uptoBulkAll {H : Type} : List (DataW H) → Nat
  | [] => 0
  | d :: r => uptoBulk d + uptoBulkAll r
def uptoBulkEntries {H : Type} : List (Lit × DataW H) → Nat
  | [] => 0
  | x :: r => uptoBulkEntry x + uptoBulkEntries r
def uptoBulkEntry {H : Type} : Lit × DataW H → Nat
  | (.string bytes, d) => bytes.length + uptoBulk d + 1
  | (_, d) => uptoBulk d + 1
 end
def uptoSmall : (H : Type) → List (DataW H) → Bool := fun _ ds => decide (uptoBulkAll ds ≤ 1048576)
def OpenSpec.upto (s : _root_.Go.ChangeSpec) : _root_.Go.OpenSpec := { _root_.Go.OpenSpec.ofChange s with cond := some uptoSmall }

/-- 'locksteplaw18.AliasRow', WHERE WHAT IT READS IS OF BULK AT MOST 1048576: true; the input reads as it did. -/
def aliasRowUptoRow : OpenClaim := { program := "ytecjccggbbbaaaagreat", sum := "cc4ec6be2939f594440aaf937b49e8cf3446f55c745c2084243c00b6ce98154e", func := "lockstep/locksteplaw18.AliasRow", spec := "aliasRow", unfollowed := true, recurses := true, apart := false, narrowed := true }
def AliasRowUptoSaid : Prop := aliasRowUptoRow.holds Tryz.pinned (OpenSpec.upto aliasRowSpec)

/-- 'locksteplaw18.AliasOther', WHERE WHAT IT READS IS OF BULK AT MOST 1048576: true; the input reads as it did. -/
def aliasOtherUptoRow : OpenClaim := { program := "ytecjccggbbbaaaagreat", sum := "cc4ec6be2939f594440aaf937b49e8cf3446f55c745c2084243c00b6ce98154e", func := "lockstep/locksteplaw18.AliasOther", spec := "aliasOther", unfollowed := true, recurses := true, apart := false, narrowed := true }
def AliasOtherUptoSaid : Prop := aliasOtherUptoRow.holds Tryz.pinned (OpenSpec.upto aliasOtherSpec)

/-- 'locksteplaw13.EvalTwo', WHERE WHAT IT READS IS OF BULK AT MOST 1048576: true; the input reads as it did. -/
def evalTwoUptoRow : OpenClaim := { program := "ytecjccggbbbaaaagreat", sum := "cc4ec6be2939f594440aaf937b49e8cf3446f55c745c2084243c00b6ce98154e", func := "lockstep/locksteplaw13.EvalTwo", spec := "evalTwo", unfollowed := true, recurses := true, apart := false, narrowed := true }
def EvalTwoUptoSaid : Prop := evalTwoUptoRow.holds Tryz.pinned (OpenSpec.upto evalTwoSpec)

/-- 'locksteplaw13.EvalLanes', WHERE WHAT IT READS IS OF BULK AT MOST 1048576: true; the input reads as it did. -/
def evalLanesUptoRow : OpenClaim := { program := "ytecjccggbbbaaaagreat", sum := "cc4ec6be2939f594440aaf937b49e8cf3446f55c745c2084243c00b6ce98154e", func := "lockstep/locksteplaw13.EvalLanes", spec := "evalLanes", unfollowed := true, recurses := true, apart := false, narrowed := true }
def EvalLanesUptoSaid : Prop := evalLanesUptoRow.holds Tryz.pinned (OpenSpec.upto evalLanesSpec)

/-- 'locksteplaw13.EvalLoops', WHERE WHAT IT READS IS OF BULK AT MOST 1048576: true; the input reads as it did. -/
def evalLoopsUptoRow : OpenClaim := { program := "ytecjccggbbbaaaagreat", sum := "cc4ec6be2939f594440aaf937b49e8cf3446f55c745c2084243c00b6ce98154e", func := "lockstep/locksteplaw13.EvalLoops", spec := "evalLoops", unfollowed := true, recurses := true, apart := false, narrowed := true }
def EvalLoopsUptoSaid : Prop := evalLoopsUptoRow.holds Tryz.pinned (OpenSpec.upto evalLoopsSpec)

/-- 'locksteplaw13.EvalGuards', WHERE WHAT IT READS IS OF BULK AT MOST 1048576: true; the input reads as it did. -/
def evalGuardsUptoRow : OpenClaim := { program := "ytecjccggbbbaaaagreat", sum := "cc4ec6be2939f594440aaf937b49e8cf3446f55c745c2084243c00b6ce98154e", func := "lockstep/locksteplaw13.EvalGuards", spec := "evalGuards", unfollowed := true, recurses := true, apart := false, narrowed := true }
def EvalGuardsUptoSaid : Prop := evalGuardsUptoRow.holds Tryz.pinned (OpenSpec.upto evalGuardsSpec)

/-- 'locksteplaw13.EvalTraps', WHERE WHAT IT READS IS OF BULK AT MOST 1048576: true; the input reads as it did. -/
def evalTrapsUptoRow : OpenClaim := { program := "ytecjccggbbbaaaagreat", sum := "cc4ec6be2939f594440aaf937b49e8cf3446f55c745c2084243c00b6ce98154e", func := "lockstep/locksteplaw13.EvalTraps", spec := "evalTraps", unfollowed := true, recurses := true, apart := false, narrowed := true }
def EvalTrapsUptoSaid : Prop := evalTrapsUptoRow.holds Tryz.pinned (OpenSpec.upto evalTrapsSpec)

/-- 'locksteplaw20.PacksRow', WHERE WHAT IT READS IS OF BULK AT MOST 1048576: true; the input reads as it did. -/
def packsRowUptoRow : OpenClaim := { program := "ytecjccggbbbaaaagreat", sum := "cc4ec6be2939f594440aaf937b49e8cf3446f55c745c2084243c00b6ce98154e", func := "lockstep/locksteplaw20.PacksRow", spec := "packsRow", unfollowed := true, recurses := true, apart := false, narrowed := true }
def PacksRowUptoSaid : Prop := packsRowUptoRow.holds Tryz.pinned (OpenSpec.upto packsRowSpec)

/-- 'locksteplaw20.PacksTwice', WHERE WHAT IT READS IS OF BULK AT MOST 1048576: true; the input reads as it did. -/
def packsTwiceUptoRow : OpenClaim := { program := "ytecjccggbbbaaaagreat", sum := "cc4ec6be2939f594440aaf937b49e8cf3446f55c745c2084243c00b6ce98154e", func := "lockstep/locksteplaw20.PacksTwice", spec := "packsTwice", unfollowed := true, recurses := true, apart := false, narrowed := true }
def PacksTwiceUptoSaid : Prop := packsTwiceUptoRow.holds Tryz.pinned (OpenSpec.upto packsTwiceSpec)

/-- 'locksteplaw24.SplitSteps', WHERE WHAT IT READS IS OF BULK AT MOST 1048576: true; the input reads as it did. -/
def splitStepsUptoRow : OpenClaim := { program := "ytecjccggbbbaaaagreat", sum := "cc4ec6be2939f594440aaf937b49e8cf3446f55c745c2084243c00b6ce98154e", func := "lockstep/locksteplaw24.SplitSteps", spec := "splitSteps", unfollowed := true, recurses := true, apart := false, narrowed := true }
def SplitStepsUptoSaid : Prop := splitStepsUptoRow.holds Tryz.pinned (OpenSpec.upto splitStepsSpec)

end Rows
end Go.Proofs.YtecjccggbbbaaaaGreat
