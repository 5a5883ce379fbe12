/-
  No cell of these rows narrows 'for every input' (looked for: loops, veiled, ifaces, maps, wideKeys, modest, calm, conditions, laid).
  DERIVED. THE GIVEN ROWS OF THIS SEAT. 12 by the template 'for every input the law returns true; each argument reads behind the call as it read before'; 0 by the template 'total and deterministic' (their statements: YtmaidjankakppaaTotals.lean).
  GIVEN WITH THE SEED: the statements are not yours to turn. If you find one false, say at which input.
  Laid BY PROGRAM, IN A SANDBOX (cutbox-rows.mjs): the forced cells as the released guide's own fill.sh prints them over the translation fcf61929b39ccce7… (all of the seat's roots in one cut). By AI agents, Wed Nov 11 2026. No macro, syntax, notation, axiom, sorry.
-/
import Derived.Test.YtmaidjankakppaaChecked
import GoSem.Claim
import GoSem.ClaimJoined
import GoSem.ClaimMapViews
import Derived.JoinedTies
import Derived.KernelRfl
namespace Go.Proofs.Ytmaidjankakppaa
/- THE CELL 'sum', in the pinned program and in every row, IS THE sha256 OF THE DUMP (.gsa) THAT YtmaidjankakppaaProg.lean LOADS. Nothing in Lean hashes anything: it is a label: what it is worth is what the hold of that sum in a sandbox is worth. -/
noncomputable def Try.pinned : Pinned := { name := "ytmaidjankakppaa", sum := "fcf61929b39ccce7bd62e0929b788b8a4542f713f90474e9a47f055ae4b7ae34", checked := Try.checked }
namespace Rows
def none {H : Type} : Left H := { results := [], args := [] }

/-- 'ductilitylaw06.ModalFrames': WHATEVER THE INPUT: true; the input reads as it did. -/
def modalFramesSpec : ChangeSpec := { name := "modalFrames", fn := fun _ => fun
  | [d] => { results := [.lit (.bool true)], args := [d] }
  | _ => none }
def modalFramesRow : OpenClaim := { program := "ytmaidjankakppaa", sum := "fcf61929b39ccce7bd62e0929b788b8a4542f713f90474e9a47f055ae4b7ae34", func := "ductility/ductilitylaw06.ModalFrames", spec := "modalFrames", unfollowed := true, recurses := true, apart := false }
def ModalFramesSaid : Prop := modalFramesRow.holds Try.pinned (OpenSpec.ofChange modalFramesSpec)

/-- ITS FALSE NEIGHBOUR: 'it returns false'. Refute it at one input. -/
def modalFramesWrong : ChangeSpec := { name := "modalFrames", fn := fun _ => fun
  | [d] => { results := [.lit (.bool false)], args := [d] }
  | _ => none }
def ModalFramesWrongFalsely : Prop := modalFramesRow.holds Try.pinned (OpenSpec.ofChange modalFramesWrong)

/-- 'ductilitylaw06.ModalDamages': WHATEVER THE INPUT: true; the input reads as it did. -/
def modalDamagesSpec : ChangeSpec := { name := "modalDamages", fn := fun _ => fun
  | [d1, d2, d3] => { results := [.lit (.bool true)], args := [d1, d2, d3] }
  | _ => none }
def modalDamagesRow : OpenClaim := { program := "ytmaidjankakppaa", sum := "fcf61929b39ccce7bd62e0929b788b8a4542f713f90474e9a47f055ae4b7ae34", func := "ductility/ductilitylaw06.ModalDamages", spec := "modalDamages", unfollowed := true, recurses := true, apart := false }
def ModalDamagesSaid : Prop := modalDamagesRow.holds Try.pinned (OpenSpec.ofChange modalDamagesSpec)

/-- ITS FALSE NEIGHBOUR: 'it returns false'. Refute it at one input. -/
def modalDamagesWrong : ChangeSpec := { name := "modalDamages", fn := fun _ => fun
  | [d1, d2, d3] => { results := [.lit (.bool false)], args := [d1, d2, d3] }
  | _ => none }
def ModalDamagesWrongFalsely : Prop := modalDamagesRow.holds Try.pinned (OpenSpec.ofChange modalDamagesWrong)

/-- 'ductilitylaw06.ModalStiffer': WHATEVER THE INPUT: true; the input reads as it did. -/
def modalStifferSpec : ChangeSpec := { name := "modalStiffer", fn := fun _ => fun
  | [d1, d2, d3] => { results := [.lit (.bool true)], args := [d1, d2, d3] }
  | _ => none }
def modalStifferRow : OpenClaim := { program := "ytmaidjankakppaa", sum := "fcf61929b39ccce7bd62e0929b788b8a4542f713f90474e9a47f055ae4b7ae34", func := "ductility/ductilitylaw06.ModalStiffer", spec := "modalStiffer", unfollowed := true, recurses := true, apart := false }
def ModalStifferSaid : Prop := modalStifferRow.holds Try.pinned (OpenSpec.ofChange modalStifferSpec)

/-- ITS FALSE NEIGHBOUR: 'it returns false'. Refute it at one input. -/
def modalStifferWrong : ChangeSpec := { name := "modalStiffer", fn := fun _ => fun
  | [d1, d2, d3] => { results := [.lit (.bool false)], args := [d1, d2, d3] }
  | _ => none }
def ModalStifferWrongFalsely : Prop := modalStifferRow.holds Try.pinned (OpenSpec.ofChange modalStifferWrong)

/-- 'ductilitylaw06.ModalCounts': WHATEVER THE INPUT: true; the input reads as it did. -/
def modalCountsSpec : ChangeSpec := { name := "modalCounts", fn := fun _ => fun
  | [d1, d2, d3] => { results := [.lit (.bool true)], args := [d1, d2, d3] }
  | _ => none }
def modalCountsRow : OpenClaim := { program := "ytmaidjankakppaa", sum := "fcf61929b39ccce7bd62e0929b788b8a4542f713f90474e9a47f055ae4b7ae34", func := "ductility/ductilitylaw06.ModalCounts", spec := "modalCounts", unfollowed := true, recurses := true, apart := false }
def ModalCountsSaid : Prop := modalCountsRow.holds Try.pinned (OpenSpec.ofChange modalCountsSpec)

/-- ITS FALSE NEIGHBOUR: 'it returns false'. Refute it at one input. -/
def modalCountsWrong : ChangeSpec := { name := "modalCounts", fn := fun _ => fun
  | [d1, d2, d3] => { results := [.lit (.bool false)], args := [d1, d2, d3] }
  | _ => none }
def ModalCountsWrongFalsely : Prop := modalCountsRow.holds Try.pinned (OpenSpec.ofChange modalCountsWrong)

/-- 'ductilitylaw06.ModalSigns': WHATEVER THE INPUT: true; the input reads as it did. -/
def modalSignsSpec : ChangeSpec := { name := "modalSigns", fn := fun _ => fun
  | [d1, d2, d3] => { results := [.lit (.bool true)], args := [d1, d2, d3] }
  | _ => none }
def modalSignsRow : OpenClaim := { program := "ytmaidjankakppaa", sum := "fcf61929b39ccce7bd62e0929b788b8a4542f713f90474e9a47f055ae4b7ae34", func := "ductility/ductilitylaw06.ModalSigns", spec := "modalSigns", unfollowed := true, recurses := true, apart := false }
def ModalSignsSaid : Prop := modalSignsRow.holds Try.pinned (OpenSpec.ofChange modalSignsSpec)

/-- ITS FALSE NEIGHBOUR: 'it returns false'. Refute it at one input. -/
def modalSignsWrong : ChangeSpec := { name := "modalSigns", fn := fun _ => fun
  | [d1, d2, d3] => { results := [.lit (.bool false)], args := [d1, d2, d3] }
  | _ => none }
def ModalSignsWrongFalsely : Prop := modalSignsRow.holds Try.pinned (OpenSpec.ofChange modalSignsWrong)

/-- 'ductilitylaw06.ModalTrue': WHATEVER THE INPUT: true; the input reads as it did. -/
def modalTrueSpec : ChangeSpec := { name := "modalTrue", fn := fun _ => fun
  | [d1, d2] => { results := [.lit (.bool true)], args := [d1, d2] }
  | _ => none }
def modalTrueRow : OpenClaim := { program := "ytmaidjankakppaa", sum := "fcf61929b39ccce7bd62e0929b788b8a4542f713f90474e9a47f055ae4b7ae34", func := "ductility/ductilitylaw06.ModalTrue", spec := "modalTrue", unfollowed := true, recurses := true, apart := false }
def ModalTrueSaid : Prop := modalTrueRow.holds Try.pinned (OpenSpec.ofChange modalTrueSpec)

/-- ITS FALSE NEIGHBOUR: 'it returns false'. Refute it at one input. -/
def modalTrueWrong : ChangeSpec := { name := "modalTrue", fn := fun _ => fun
  | [d1, d2] => { results := [.lit (.bool false)], args := [d1, d2] }
  | _ => none }
def ModalTrueWrongFalsely : Prop := modalTrueRow.holds Try.pinned (OpenSpec.ofChange modalTrueWrong)

/-- 'ductilitylaw06.ModalExplained': WHATEVER THE INPUT: true; the input reads as it did. -/
def modalExplainedSpec : ChangeSpec := { name := "modalExplained", fn := fun _ => fun
  | [d1, d2, d3] => { results := [.lit (.bool true)], args := [d1, d2, d3] }
  | _ => none }
def modalExplainedRow : OpenClaim := { program := "ytmaidjankakppaa", sum := "fcf61929b39ccce7bd62e0929b788b8a4542f713f90474e9a47f055ae4b7ae34", func := "ductility/ductilitylaw06.ModalExplained", spec := "modalExplained", unfollowed := true, recurses := true, apart := false }
def ModalExplainedSaid : Prop := modalExplainedRow.holds Try.pinned (OpenSpec.ofChange modalExplainedSpec)

/-- ITS FALSE NEIGHBOUR: 'it returns false'. Refute it at one input. -/
def modalExplainedWrong : ChangeSpec := { name := "modalExplained", fn := fun _ => fun
  | [d1, d2, d3] => { results := [.lit (.bool false)], args := [d1, d2, d3] }
  | _ => none }
def ModalExplainedWrongFalsely : Prop := modalExplainedRow.holds Try.pinned (OpenSpec.ofChange modalExplainedWrong)

/-- 'ductilitylaw06.ModalEnclosed': WHATEVER THE INPUT: true; the input reads as it did. -/
def modalEnclosedSpec : ChangeSpec := { name := "modalEnclosed", fn := fun _ => fun
  | [d1, d2] => { results := [.lit (.bool true)], args := [d1, d2] }
  | _ => none }
def modalEnclosedRow : OpenClaim := { program := "ytmaidjankakppaa", sum := "fcf61929b39ccce7bd62e0929b788b8a4542f713f90474e9a47f055ae4b7ae34", func := "ductility/ductilitylaw06.ModalEnclosed", spec := "modalEnclosed", unfollowed := true, recurses := true, apart := false }
def ModalEnclosedSaid : Prop := modalEnclosedRow.holds Try.pinned (OpenSpec.ofChange modalEnclosedSpec)

/-- ITS FALSE NEIGHBOUR: 'it returns false'. Refute it at one input. -/
def modalEnclosedWrong : ChangeSpec := { name := "modalEnclosed", fn := fun _ => fun
  | [d1, d2] => { results := [.lit (.bool false)], args := [d1, d2] }
  | _ => none }
def ModalEnclosedWrongFalsely : Prop := modalEnclosedRow.holds Try.pinned (OpenSpec.ofChange modalEnclosedWrong)

/-- 'ductilitylaw06.ModalDecays': WHATEVER THE INPUT: true; the input reads as it did. -/
def modalDecaysSpec : ChangeSpec := { name := "modalDecays", fn := fun _ => fun
  | [d] => { results := [.lit (.bool true)], args := [d] }
  | _ => none }
def modalDecaysRow : OpenClaim := { program := "ytmaidjankakppaa", sum := "fcf61929b39ccce7bd62e0929b788b8a4542f713f90474e9a47f055ae4b7ae34", func := "ductility/ductilitylaw06.ModalDecays", spec := "modalDecays", unfollowed := true, recurses := true, apart := false }
def ModalDecaysSaid : Prop := modalDecaysRow.holds Try.pinned (OpenSpec.ofChange modalDecaysSpec)

/-- ITS FALSE NEIGHBOUR: 'it returns false'. Refute it at one input. -/
def modalDecaysWrong : ChangeSpec := { name := "modalDecays", fn := fun _ => fun
  | [d] => { results := [.lit (.bool false)], args := [d] }
  | _ => none }
def ModalDecaysWrongFalsely : Prop := modalDecaysRow.holds Try.pinned (OpenSpec.ofChange modalDecaysWrong)

/-- 'ductilitylaw06.ModalAgreed': WHATEVER THE INPUT: true; the input reads as it did. -/
def modalAgreedSpec : ChangeSpec := { name := "modalAgreed", fn := fun _ => fun
  | [d1, d2] => { results := [.lit (.bool true)], args := [d1, d2] }
  | _ => none }
def modalAgreedRow : OpenClaim := { program := "ytmaidjankakppaa", sum := "fcf61929b39ccce7bd62e0929b788b8a4542f713f90474e9a47f055ae4b7ae34", func := "ductility/ductilitylaw06.ModalAgreed", spec := "modalAgreed", unfollowed := true, recurses := true, apart := false }
def ModalAgreedSaid : Prop := modalAgreedRow.holds Try.pinned (OpenSpec.ofChange modalAgreedSpec)

/-- ITS FALSE NEIGHBOUR: 'it returns false'. Refute it at one input. -/
def modalAgreedWrong : ChangeSpec := { name := "modalAgreed", fn := fun _ => fun
  | [d1, d2] => { results := [.lit (.bool false)], args := [d1, d2] }
  | _ => none }
def ModalAgreedWrongFalsely : Prop := modalAgreedRow.holds Try.pinned (OpenSpec.ofChange modalAgreedWrong)

/-- 'ductilitylaw06.ModalShapes': WHATEVER THE INPUT: true; the input reads as it did. -/
def modalShapesSpec : ChangeSpec := { name := "modalShapes", fn := fun _ => fun
  | [d1, d2, d3] => { results := [.lit (.bool true)], args := [d1, d2, d3] }
  | _ => none }
def modalShapesRow : OpenClaim := { program := "ytmaidjankakppaa", sum := "fcf61929b39ccce7bd62e0929b788b8a4542f713f90474e9a47f055ae4b7ae34", func := "ductility/ductilitylaw06.ModalShapes", spec := "modalShapes", unfollowed := true, recurses := true, apart := false }
def ModalShapesSaid : Prop := modalShapesRow.holds Try.pinned (OpenSpec.ofChange modalShapesSpec)

/-- ITS FALSE NEIGHBOUR: 'it returns false'. Refute it at one input. -/
def modalShapesWrong : ChangeSpec := { name := "modalShapes", fn := fun _ => fun
  | [d1, d2, d3] => { results := [.lit (.bool false)], args := [d1, d2, d3] }
  | _ => none }
def ModalShapesWrongFalsely : Prop := modalShapesRow.holds Try.pinned (OpenSpec.ofChange modalShapesWrong)

/-- 'ductilitylaw06.ModalNodes': WHATEVER THE INPUT: true; the input reads as it did. -/
def modalNodesSpec : ChangeSpec := { name := "modalNodes", fn := fun _ => fun
  | [d1, d2, d3] => { results := [.lit (.bool true)], args := [d1, d2, d3] }
  | _ => none }
def modalNodesRow : OpenClaim := { program := "ytmaidjankakppaa", sum := "fcf61929b39ccce7bd62e0929b788b8a4542f713f90474e9a47f055ae4b7ae34", func := "ductility/ductilitylaw06.ModalNodes", spec := "modalNodes", unfollowed := true, recurses := true, apart := false }
def ModalNodesSaid : Prop := modalNodesRow.holds Try.pinned (OpenSpec.ofChange modalNodesSpec)

/-- ITS FALSE NEIGHBOUR: 'it returns false'. Refute it at one input. -/
def modalNodesWrong : ChangeSpec := { name := "modalNodes", fn := fun _ => fun
  | [d1, d2, d3] => { results := [.lit (.bool false)], args := [d1, d2, d3] }
  | _ => none }
def ModalNodesWrongFalsely : Prop := modalNodesRow.holds Try.pinned (OpenSpec.ofChange modalNodesWrong)

/- THE SECOND FORM. 'bulk': how many values and letters a reading holds, each counted each time it is reached (what is shared counts as often as it is met; a slice's spare places count too). A statement '..UptoSaid' is the law's where the arguments, and the package variables that the reading takes, are together of bulk at most 1048576: NARROWER than '..Said'. Prove '..Said' where nothing that the law and all that it calls make is longer than what came in: it says more and counts as full. Else prove '..UptoSaid'. A law counts once. -/
mutual
def uptoBulk {H : Type} : DataW H → Nat
  | .lit (.string bytes) => bytes.length + 1
  | .lit _ => 1
  | .nil => 1
  | .ptr d => uptoBulk d + 1
  | .slice elems spare => uptoBulkAll elems + uptoBulkAll spare + 1
  | .agg parts => uptoBulkAll parts + 1
  | .iface _ d => uptoBulk d + 1
  | .map entries => uptoBulkEntries entries + 1
  | .held _ => 1
def uptoBulkAll {H : Type} : List (DataW H) → Nat
  | [] => 0
  | d :: r => uptoBulk d + uptoBulkAll r
def uptoBulkEntries {H : Type} : List (Lit × DataW H) → Nat
  | [] => 0
  | x :: r => uptoBulkEntry x + uptoBulkEntries r
def uptoBulkEntry {H : Type} : Lit × DataW H → Nat
  | (.string bytes, d) => bytes.length + uptoBulk d + 1
  | (_, d) => uptoBulk d + 1
 end
def uptoSmall : (H : Type) → List (DataW H) → Bool := fun _ ds => decide (uptoBulkAll ds ≤ 1048576)
def OpenSpec.upto (s : _root_.Go.ChangeSpec) : _root_.Go.OpenSpec := { _root_.Go.OpenSpec.ofChange s with cond := some uptoSmall }

/-- 'ductilitylaw06.ModalFrames', WHERE WHAT IT READS IS OF BULK AT MOST 1048576: true; the input reads as it did. -/
def modalFramesUptoRow : OpenClaim := { program := "ytmaidjankakppaa", sum := "fcf61929b39ccce7bd62e0929b788b8a4542f713f90474e9a47f055ae4b7ae34", func := "ductility/ductilitylaw06.ModalFrames", spec := "modalFrames", unfollowed := true, recurses := true, apart := false, narrowed := true }
def ModalFramesUptoSaid : Prop := modalFramesUptoRow.holds Try.pinned (OpenSpec.upto modalFramesSpec)

/-- 'ductilitylaw06.ModalDamages', WHERE WHAT IT READS IS OF BULK AT MOST 1048576: true; the input reads as it did. -/
def modalDamagesUptoRow : OpenClaim := { program := "ytmaidjankakppaa", sum := "fcf61929b39ccce7bd62e0929b788b8a4542f713f90474e9a47f055ae4b7ae34", func := "ductility/ductilitylaw06.ModalDamages", spec := "modalDamages", unfollowed := true, recurses := true, apart := false, narrowed := true }
def ModalDamagesUptoSaid : Prop := modalDamagesUptoRow.holds Try.pinned (OpenSpec.upto modalDamagesSpec)

/-- 'ductilitylaw06.ModalStiffer', WHERE WHAT IT READS IS OF BULK AT MOST 1048576: true; the input reads as it did. -/
def modalStifferUptoRow : OpenClaim := { program := "ytmaidjankakppaa", sum := "fcf61929b39ccce7bd62e0929b788b8a4542f713f90474e9a47f055ae4b7ae34", func := "ductility/ductilitylaw06.ModalStiffer", spec := "modalStiffer", unfollowed := true, recurses := true, apart := false, narrowed := true }
def ModalStifferUptoSaid : Prop := modalStifferUptoRow.holds Try.pinned (OpenSpec.upto modalStifferSpec)

/-- 'ductilitylaw06.ModalCounts', WHERE WHAT IT READS IS OF BULK AT MOST 1048576: true; the input reads as it did. -/
def modalCountsUptoRow : OpenClaim := { program := "ytmaidjankakppaa", sum := "fcf61929b39ccce7bd62e0929b788b8a4542f713f90474e9a47f055ae4b7ae34", func := "ductility/ductilitylaw06.ModalCounts", spec := "modalCounts", unfollowed := true, recurses := true, apart := false, narrowed := true }
def ModalCountsUptoSaid : Prop := modalCountsUptoRow.holds Try.pinned (OpenSpec.upto modalCountsSpec)

/-- 'ductilitylaw06.ModalSigns', WHERE WHAT IT READS IS OF BULK AT MOST 1048576: true; the input reads as it did. -/
def modalSignsUptoRow : OpenClaim := { program := "ytmaidjankakppaa", sum := "fcf61929b39ccce7bd62e0929b788b8a4542f713f90474e9a47f055ae4b7ae34", func := "ductility/ductilitylaw06.ModalSigns", spec := "modalSigns", unfollowed := true, recurses := true, apart := false, narrowed := true }
def ModalSignsUptoSaid : Prop := modalSignsUptoRow.holds Try.pinned (OpenSpec.upto modalSignsSpec)

/-- 'ductilitylaw06.ModalTrue', WHERE WHAT IT READS IS OF BULK AT MOST 1048576: true; the input reads as it did. -/
def modalTrueUptoRow : OpenClaim := { program := "ytmaidjankakppaa", sum := "fcf61929b39ccce7bd62e0929b788b8a4542f713f90474e9a47f055ae4b7ae34", func := "ductility/ductilitylaw06.ModalTrue", spec := "modalTrue", unfollowed := true, recurses := true, apart := false, narrowed := true }
def ModalTrueUptoSaid : Prop := modalTrueUptoRow.holds Try.pinned (OpenSpec.upto modalTrueSpec)

/-- 'ductilitylaw06.ModalExplained', WHERE WHAT IT READS IS OF BULK AT MOST 1048576: true; the input reads as it did. -/
def modalExplainedUptoRow : OpenClaim := { program := "ytmaidjankakppaa", sum := "fcf61929b39ccce7bd62e0929b788b8a4542f713f90474e9a47f055ae4b7ae34", func := "ductility/ductilitylaw06.ModalExplained", spec := "modalExplained", unfollowed := true, recurses := true, apart := false, narrowed := true }
def ModalExplainedUptoSaid : Prop := modalExplainedUptoRow.holds Try.pinned (OpenSpec.upto modalExplainedSpec)

/-- 'ductilitylaw06.ModalEnclosed', WHERE WHAT IT READS IS OF BULK AT MOST 1048576: true; the input reads as it did. -/
def modalEnclosedUptoRow : OpenClaim := { program := "ytmaidjankakppaa", sum := "fcf61929b39ccce7bd62e0929b788b8a4542f713f90474e9a47f055ae4b7ae34", func := "ductility/ductilitylaw06.ModalEnclosed", spec := "modalEnclosed", unfollowed := true, recurses := true, apart := false, narrowed := true }
def ModalEnclosedUptoSaid : Prop := modalEnclosedUptoRow.holds Try.pinned (OpenSpec.upto modalEnclosedSpec)

/-- 'ductilitylaw06.ModalDecays', WHERE WHAT IT READS IS OF BULK AT MOST 1048576: true; the input reads as it did. -/
def modalDecaysUptoRow : OpenClaim := { program := "ytmaidjankakppaa", sum := "fcf61929b39ccce7bd62e0929b788b8a4542f713f90474e9a47f055ae4b7ae34", func := "ductility/ductilitylaw06.ModalDecays", spec := "modalDecays", unfollowed := true, recurses := true, apart := false, narrowed := true }
def ModalDecaysUptoSaid : Prop := modalDecaysUptoRow.holds Try.pinned (OpenSpec.upto modalDecaysSpec)

/-- 'ductilitylaw06.ModalAgreed', WHERE WHAT IT READS IS OF BULK AT MOST 1048576: true; the input reads as it did. -/
def modalAgreedUptoRow : OpenClaim := { program := "ytmaidjankakppaa", sum := "fcf61929b39ccce7bd62e0929b788b8a4542f713f90474e9a47f055ae4b7ae34", func := "ductility/ductilitylaw06.ModalAgreed", spec := "modalAgreed", unfollowed := true, recurses := true, apart := false, narrowed := true }
def ModalAgreedUptoSaid : Prop := modalAgreedUptoRow.holds Try.pinned (OpenSpec.upto modalAgreedSpec)

/-- 'ductilitylaw06.ModalShapes', WHERE WHAT IT READS IS OF BULK AT MOST 1048576: true; the input reads as it did. -/
def modalShapesUptoRow : OpenClaim := { program := "ytmaidjankakppaa", sum := "fcf61929b39ccce7bd62e0929b788b8a4542f713f90474e9a47f055ae4b7ae34", func := "ductility/ductilitylaw06.ModalShapes", spec := "modalShapes", unfollowed := true, recurses := true, apart := false, narrowed := true }
def ModalShapesUptoSaid : Prop := modalShapesUptoRow.holds Try.pinned (OpenSpec.upto modalShapesSpec)

/-- 'ductilitylaw06.ModalNodes', WHERE WHAT IT READS IS OF BULK AT MOST 1048576: true; the input reads as it did. -/
def modalNodesUptoRow : OpenClaim := { program := "ytmaidjankakppaa", sum := "fcf61929b39ccce7bd62e0929b788b8a4542f713f90474e9a47f055ae4b7ae34", func := "ductility/ductilitylaw06.ModalNodes", spec := "modalNodes", unfollowed := true, recurses := true, apart := false, narrowed := true }
def ModalNodesUptoSaid : Prop := modalNodesUptoRow.holds Try.pinned (OpenSpec.upto modalNodesSpec)

end Rows
end Go.Proofs.Ytmaidjankakppaa
