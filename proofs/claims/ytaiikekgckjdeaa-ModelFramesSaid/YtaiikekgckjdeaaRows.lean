/-
  No cell of these rows narrows 'for every input' (looked for: loops, veiled, ifaces, maps, wideKeys, modest, calm, conditions, laid).
  DERIVED. THE GIVEN ROWS OF THIS SEAT. 8 by the template 'for every input the law returns true; each argument reads behind the call as it read before'; 0 by the template 'total and deterministic' (their statements: YtaiikekgckjdeaaTotals.lean).
  GIVEN WITH THE SEED: the statements are not yours to turn. If you find one false, say at which input.
  Laid BY PROGRAM, IN A SANDBOX (cutbox-rows.mjs): the forced cells as the released guide's own fill.sh prints them over the translation 779897704d6d8cf3… (all of the seat's roots in one cut). By AI agents, Wed Nov 11 2026. No macro, syntax, notation, axiom, sorry.
-/
import Derived.Test.YtaiikekgckjdeaaChecked
import GoSem.Claim
import GoSem.ClaimJoined
import GoSem.ClaimMapViews
import Derived.JoinedTies
import Derived.KernelRfl
namespace Go.Proofs.Ytaiikekgckjdeaa
/- THE CELL 'sum', in the pinned program and in every row, IS THE sha256 OF THE DUMP (.gsa) THAT YtaiikekgckjdeaaProg.lean LOADS. Nothing in Lean hashes anything: it is a label: what it is worth is what the hold of that sum in a sandbox is worth. -/
noncomputable def Try.pinned : Pinned := { name := "ytaiikekgckjdeaa", sum := "779897704d6d8cf33f79be8385264b75c65c5d7a287e6d5aa9e222106d07cd63", checked := Try.checked }
namespace Rows
def none {H : Type} : Left H := { results := [], args := [] }

/-- 'ductilitylaw05.ModelRuns': WHATEVER THE INPUT: true; the input reads as it did. -/
def modelRunsSpec : ChangeSpec := { name := "modelRuns", fn := fun _ => fun
  | [d1, d2] => { results := [.lit (.bool true)], args := [d1, d2] }
  | _ => none }
def modelRunsRow : OpenClaim := { program := "ytaiikekgckjdeaa", sum := "779897704d6d8cf33f79be8385264b75c65c5d7a287e6d5aa9e222106d07cd63", func := "ductility/ductilitylaw05.ModelRuns", spec := "modelRuns", unfollowed := true, recurses := true, apart := false }
def ModelRunsSaid : Prop := modelRunsRow.holds Try.pinned (OpenSpec.ofChange modelRunsSpec)

/-- ITS FALSE NEIGHBOUR: 'it returns false'. Refute it at one input. -/
def modelRunsWrong : ChangeSpec := { name := "modelRuns", fn := fun _ => fun
  | [d1, d2] => { results := [.lit (.bool false)], args := [d1, d2] }
  | _ => none }
def ModelRunsWrongFalsely : Prop := modelRunsRow.holds Try.pinned (OpenSpec.ofChange modelRunsWrong)

/-- 'ductilitylaw05.ModelWork': WHATEVER THE INPUT: true; the input reads as it did. -/
def modelWorkSpec : ChangeSpec := { name := "modelWork", fn := fun _ => fun
  | [d1, d2, d3] => { results := [.lit (.bool true)], args := [d1, d2, d3] }
  | _ => none }
def modelWorkRow : OpenClaim := { program := "ytaiikekgckjdeaa", sum := "779897704d6d8cf33f79be8385264b75c65c5d7a287e6d5aa9e222106d07cd63", func := "ductility/ductilitylaw05.ModelWork", spec := "modelWork", unfollowed := true, recurses := true, apart := false }
def ModelWorkSaid : Prop := modelWorkRow.holds Try.pinned (OpenSpec.ofChange modelWorkSpec)

/-- ITS FALSE NEIGHBOUR: 'it returns false'. Refute it at one input. -/
def modelWorkWrong : ChangeSpec := { name := "modelWork", fn := fun _ => fun
  | [d1, d2, d3] => { results := [.lit (.bool false)], args := [d1, d2, d3] }
  | _ => none }
def ModelWorkWrongFalsely : Prop := modelWorkRow.holds Try.pinned (OpenSpec.ofChange modelWorkWrong)

/-- 'ductilitylaw05.ModelSprings': WHATEVER THE INPUT: true; the input reads as it did. -/
def modelSpringsSpec : ChangeSpec := { name := "modelSprings", fn := fun _ => fun
  | [d1, d2, d3] => { results := [.lit (.bool true)], args := [d1, d2, d3] }
  | _ => none }
def modelSpringsRow : OpenClaim := { program := "ytaiikekgckjdeaa", sum := "779897704d6d8cf33f79be8385264b75c65c5d7a287e6d5aa9e222106d07cd63", func := "ductility/ductilitylaw05.ModelSprings", spec := "modelSprings", unfollowed := true, recurses := true, apart := false }
def ModelSpringsSaid : Prop := modelSpringsRow.holds Try.pinned (OpenSpec.ofChange modelSpringsSpec)

/-- ITS FALSE NEIGHBOUR: 'it returns false'. Refute it at one input. -/
def modelSpringsWrong : ChangeSpec := { name := "modelSprings", fn := fun _ => fun
  | [d1, d2, d3] => { results := [.lit (.bool false)], args := [d1, d2, d3] }
  | _ => none }
def ModelSpringsWrongFalsely : Prop := modelSpringsRow.holds Try.pinned (OpenSpec.ofChange modelSpringsWrong)

/-- 'ductilitylaw05.ModelScales': WHATEVER THE INPUT: true; the input reads as it did. -/
def modelScalesSpec : ChangeSpec := { name := "modelScales", fn := fun _ => fun
  | [d1, d2, d3] => { results := [.lit (.bool true)], args := [d1, d2, d3] }
  | _ => none }
def modelScalesRow : OpenClaim := { program := "ytaiikekgckjdeaa", sum := "779897704d6d8cf33f79be8385264b75c65c5d7a287e6d5aa9e222106d07cd63", func := "ductility/ductilitylaw05.ModelScales", spec := "modelScales", unfollowed := true, recurses := true, apart := false }
def ModelScalesSaid : Prop := modelScalesRow.holds Try.pinned (OpenSpec.ofChange modelScalesSpec)

/-- ITS FALSE NEIGHBOUR: 'it returns false'. Refute it at one input. -/
def modelScalesWrong : ChangeSpec := { name := "modelScales", fn := fun _ => fun
  | [d1, d2, d3] => { results := [.lit (.bool false)], args := [d1, d2, d3] }
  | _ => none }
def ModelScalesWrongFalsely : Prop := modelScalesRow.holds Try.pinned (OpenSpec.ofChange modelScalesWrong)

/-- 'ductilitylaw05.ModelThere': WHATEVER THE INPUT: true; the input reads as it did. -/
def modelThereSpec : ChangeSpec := { name := "modelThere", fn := fun _ => fun
  | [d1, d2, d3] => { results := [.lit (.bool true)], args := [d1, d2, d3] }
  | _ => none }
def modelThereRow : OpenClaim := { program := "ytaiikekgckjdeaa", sum := "779897704d6d8cf33f79be8385264b75c65c5d7a287e6d5aa9e222106d07cd63", func := "ductility/ductilitylaw05.ModelThere", spec := "modelThere", unfollowed := true, recurses := true, apart := false }
def ModelThereSaid : Prop := modelThereRow.holds Try.pinned (OpenSpec.ofChange modelThereSpec)

/-- ITS FALSE NEIGHBOUR: 'it returns false'. Refute it at one input. -/
def modelThereWrong : ChangeSpec := { name := "modelThere", fn := fun _ => fun
  | [d1, d2, d3] => { results := [.lit (.bool false)], args := [d1, d2, d3] }
  | _ => none }
def ModelThereWrongFalsely : Prop := modelThereRow.holds Try.pinned (OpenSpec.ofChange modelThereWrong)

/-- 'ductilitylaw05.ModelSteps': WHATEVER THE INPUT: true; the input reads as it did. -/
def modelStepsSpec : ChangeSpec := { name := "modelSteps", fn := fun _ => fun
  | [d1, d2, d3] => { results := [.lit (.bool true)], args := [d1, d2, d3] }
  | _ => none }
def modelStepsRow : OpenClaim := { program := "ytaiikekgckjdeaa", sum := "779897704d6d8cf33f79be8385264b75c65c5d7a287e6d5aa9e222106d07cd63", func := "ductility/ductilitylaw05.ModelSteps", spec := "modelSteps", unfollowed := true, recurses := true, apart := false }
def ModelStepsSaid : Prop := modelStepsRow.holds Try.pinned (OpenSpec.ofChange modelStepsSpec)

/-- ITS FALSE NEIGHBOUR: 'it returns false'. Refute it at one input. -/
def modelStepsWrong : ChangeSpec := { name := "modelSteps", fn := fun _ => fun
  | [d1, d2, d3] => { results := [.lit (.bool false)], args := [d1, d2, d3] }
  | _ => none }
def ModelStepsWrongFalsely : Prop := modelStepsRow.holds Try.pinned (OpenSpec.ofChange modelStepsWrong)

/-- 'ductilitylaw05.ModelFrames': WHATEVER THE INPUT: true; the input reads as it did. -/
def modelFramesSpec : ChangeSpec := { name := "modelFrames", fn := fun _ => fun
  | [d1, d2] => { results := [.lit (.bool true)], args := [d1, d2] }
  | _ => none }
def modelFramesRow : OpenClaim := { program := "ytaiikekgckjdeaa", sum := "779897704d6d8cf33f79be8385264b75c65c5d7a287e6d5aa9e222106d07cd63", func := "ductility/ductilitylaw05.ModelFrames", spec := "modelFrames", unfollowed := true, recurses := true, apart := false }
def ModelFramesSaid : Prop := modelFramesRow.holds Try.pinned (OpenSpec.ofChange modelFramesSpec)

/-- ITS FALSE NEIGHBOUR: 'it returns false'. Refute it at one input. -/
def modelFramesWrong : ChangeSpec := { name := "modelFrames", fn := fun _ => fun
  | [d1, d2] => { results := [.lit (.bool false)], args := [d1, d2] }
  | _ => none }
def ModelFramesWrongFalsely : Prop := modelFramesRow.holds Try.pinned (OpenSpec.ofChange modelFramesWrong)

/-- 'ductilitylaw05.ModelBalance': WHATEVER THE INPUT: true; the input reads as it did. -/
def modelBalanceSpec : ChangeSpec := { name := "modelBalance", fn := fun _ => fun
  | [d1, d2, d3] => { results := [.lit (.bool true)], args := [d1, d2, d3] }
  | _ => none }
def modelBalanceRow : OpenClaim := { program := "ytaiikekgckjdeaa", sum := "779897704d6d8cf33f79be8385264b75c65c5d7a287e6d5aa9e222106d07cd63", func := "ductility/ductilitylaw05.ModelBalance", spec := "modelBalance", unfollowed := true, recurses := true, apart := false }
def ModelBalanceSaid : Prop := modelBalanceRow.holds Try.pinned (OpenSpec.ofChange modelBalanceSpec)

/-- ITS FALSE NEIGHBOUR: 'it returns false'. Refute it at one input. -/
def modelBalanceWrong : ChangeSpec := { name := "modelBalance", fn := fun _ => fun
  | [d1, d2, d3] => { results := [.lit (.bool false)], args := [d1, d2, d3] }
  | _ => none }
def ModelBalanceWrongFalsely : Prop := modelBalanceRow.holds Try.pinned (OpenSpec.ofChange modelBalanceWrong)

/- THE SECOND FORM. 'bulk': how many values and letters a reading holds, each counted each time it is reached (what is shared counts as often as it is met; a slice's spare places count too). A statement '..UptoSaid' is the law's where the arguments, and the package variables that the reading takes, are together of bulk at most 1048576: NARROWER than '..Said'. Prove '..Said' where nothing that the law and all that it calls make is longer than what came in: it says more and counts as full. Else prove '..UptoSaid'. A law counts once. -/
mutual
def uptoBulk {H : Type} : DataW H → Nat
  | .lit (.string bytes) => bytes.length + 1
  | .lit _ => 1
  | .nil => 1
  | .ptr d => uptoBulk d + 1
  | .slice elems spare => uptoBulkAll elems + uptoBulkAll spare + 1
  | .agg parts => uptoBulkAll parts + 1
  | .iface _ d => uptoBulk d + 1
  | .map entries => uptoBulkEntries entries + 1
  | .held _ => 1
def uptoBulkAll {H : Type} : List (DataW H) → Nat
  | [] => 0
  | d :: r => uptoBulk d + uptoBulkAll r
def uptoBulkEntries {H : Type} : List (Lit × DataW H) → Nat
  | [] => 0
  | x :: r => uptoBulkEntry x + uptoBulkEntries r
def uptoBulkEntry {H : Type} : Lit × DataW H → Nat
  | (.string bytes, d) => bytes.length + uptoBulk d + 1
  | (_, d) => uptoBulk d + 1
 end
def uptoSmall : (H : Type) → List (DataW H) → Bool := fun _ ds => decide (uptoBulkAll ds ≤ 1048576)
def OpenSpec.upto (s : _root_.Go.ChangeSpec) : _root_.Go.OpenSpec := { _root_.Go.OpenSpec.ofChange s with cond := some uptoSmall }

/-- 'ductilitylaw05.ModelRuns', WHERE WHAT IT READS IS OF BULK AT MOST 1048576: true; the input reads as it did. -/
def modelRunsUptoRow : OpenClaim := { program := "ytaiikekgckjdeaa", sum := "779897704d6d8cf33f79be8385264b75c65c5d7a287e6d5aa9e222106d07cd63", func := "ductility/ductilitylaw05.ModelRuns", spec := "modelRuns", unfollowed := true, recurses := true, apart := false, narrowed := true }
def ModelRunsUptoSaid : Prop := modelRunsUptoRow.holds Try.pinned (OpenSpec.upto modelRunsSpec)

/-- 'ductilitylaw05.ModelWork', WHERE WHAT IT READS IS OF BULK AT MOST 1048576: true; the input reads as it did. -/
def modelWorkUptoRow : OpenClaim := { program := "ytaiikekgckjdeaa", sum := "779897704d6d8cf33f79be8385264b75c65c5d7a287e6d5aa9e222106d07cd63", func := "ductility/ductilitylaw05.ModelWork", spec := "modelWork", unfollowed := true, recurses := true, apart := false, narrowed := true }
def ModelWorkUptoSaid : Prop := modelWorkUptoRow.holds Try.pinned (OpenSpec.upto modelWorkSpec)

/-- 'ductilitylaw05.ModelSprings', WHERE WHAT IT READS IS OF BULK AT MOST 1048576: true; the input reads as it did. -/
def modelSpringsUptoRow : OpenClaim := { program := "ytaiikekgckjdeaa", sum := "779897704d6d8cf33f79be8385264b75c65c5d7a287e6d5aa9e222106d07cd63", func := "ductility/ductilitylaw05.ModelSprings", spec := "modelSprings", unfollowed := true, recurses := true, apart := false, narrowed := true }
def ModelSpringsUptoSaid : Prop := modelSpringsUptoRow.holds Try.pinned (OpenSpec.upto modelSpringsSpec)

/-- 'ductilitylaw05.ModelScales', WHERE WHAT IT READS IS OF BULK AT MOST 1048576: true; the input reads as it did. -/
def modelScalesUptoRow : OpenClaim := { program := "ytaiikekgckjdeaa", sum := "779897704d6d8cf33f79be8385264b75c65c5d7a287e6d5aa9e222106d07cd63", func := "ductility/ductilitylaw05.ModelScales", spec := "modelScales", unfollowed := true, recurses := true, apart := false, narrowed := true }
def ModelScalesUptoSaid : Prop := modelScalesUptoRow.holds Try.pinned (OpenSpec.upto modelScalesSpec)

/-- 'ductilitylaw05.ModelThere', WHERE WHAT IT READS IS OF BULK AT MOST 1048576: true; the input reads as it did. -/
def modelThereUptoRow : OpenClaim := { program := "ytaiikekgckjdeaa", sum := "779897704d6d8cf33f79be8385264b75c65c5d7a287e6d5aa9e222106d07cd63", func := "ductility/ductilitylaw05.ModelThere", spec := "modelThere", unfollowed := true, recurses := true, apart := false, narrowed := true }
def ModelThereUptoSaid : Prop := modelThereUptoRow.holds Try.pinned (OpenSpec.upto modelThereSpec)

/-- 'ductilitylaw05.ModelSteps', WHERE WHAT IT READS IS OF BULK AT MOST 1048576: true; the input reads as it did. -/
def modelStepsUptoRow : OpenClaim := { program := "ytaiikekgckjdeaa", sum := "779897704d6d8cf33f79be8385264b75c65c5d7a287e6d5aa9e222106d07cd63", func := "ductility/ductilitylaw05.ModelSteps", spec := "modelSteps", unfollowed := true, recurses := true, apart := false, narrowed := true }
def ModelStepsUptoSaid : Prop := modelStepsUptoRow.holds Try.pinned (OpenSpec.upto modelStepsSpec)

/-- 'ductilitylaw05.ModelFrames', WHERE WHAT IT READS IS OF BULK AT MOST 1048576: true; the input reads as it did. -/
def modelFramesUptoRow : OpenClaim := { program := "ytaiikekgckjdeaa", sum := "779897704d6d8cf33f79be8385264b75c65c5d7a287e6d5aa9e222106d07cd63", func := "ductility/ductilitylaw05.ModelFrames", spec := "modelFrames", unfollowed := true, recurses := true, apart := false, narrowed := true }
def ModelFramesUptoSaid : Prop := modelFramesUptoRow.holds Try.pinned (OpenSpec.upto modelFramesSpec)

/-- 'ductilitylaw05.ModelBalance', WHERE WHAT IT READS IS OF BULK AT MOST 1048576: true; the input reads as it did. -/
def modelBalanceUptoRow : OpenClaim := { program := "ytaiikekgckjdeaa", sum := "779897704d6d8cf33f79be8385264b75c65c5d7a287e6d5aa9e222106d07cd63", func := "ductility/ductilitylaw05.ModelBalance", spec := "modelBalance", unfollowed := true, recurses := true, apart := false, narrowed := true }
def ModelBalanceUptoSaid : Prop := modelBalanceUptoRow.holds Try.pinned (OpenSpec.upto modelBalanceSpec)

end Rows
end Go.Proofs.Ytaiikekgckjdeaa
