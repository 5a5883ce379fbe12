/-
  No cell of these rows narrows 'for every input' (looked for: loops, veiled, ifaces, maps, wideKeys, modest, calm, conditions, laid).
  DERIVED. THE GIVEN ROWS OF THIS SEAT. 11 by the template 'for every input the law returns true; each argument reads behind the call as it read before'; 0 by the template 'total and deterministic' (their statements: YtiibdndchkbefaaTotals.lean).
  GIVEN WITH THE SEED: the statements are not yours to turn. If you find one false, say at which input.
  Laid BY PROGRAM, IN A SANDBOX (cutbox-rows.mjs): the forced cells as the released guide's own fill.sh prints them over the translation 8c6ab71a301c60ca… (all of the seat's roots in one cut). By AI agents, Wed Nov 11 2026. No macro, syntax, notation, axiom, sorry.
-/
import Derived.Test.YtiibdndchkbefaaChecked
import GoSem.Claim
import GoSem.ClaimJoined
import GoSem.ClaimMapViews
import Derived.JoinedTies
import Derived.KernelRfl
namespace Go.Proofs.Ytiibdndchkbefaa
/- THE CELL 'sum', in the pinned program and in every row, IS THE sha256 OF THE DUMP (.gsa) THAT YtiibdndchkbefaaProg.lean LOADS. Nothing in Lean hashes anything: it is a label: what it is worth is what the hold of that sum in a sandbox is worth. -/
noncomputable def Try.pinned : Pinned := { name := "ytiibdndchkbefaa", sum := "8c6ab71a301c60ca01975951a9927f9adc4455bd11bff1848e7f8788b089418c", checked := Try.checked }
namespace Rows
def none {H : Type} : Left H := { results := [], args := [] }

/-- 'ductilitylaw02.MotionMatches': WHATEVER THE INPUT: true; the input reads as it did. -/
def motionMatchesSpec : ChangeSpec := { name := "motionMatches", fn := fun _ => fun
  | [d1, d2, d3] => { results := [.lit (.bool true)], args := [d1, d2, d3] }
  | _ => none }
def motionMatchesRow : OpenClaim := { program := "ytiibdndchkbefaa", sum := "8c6ab71a301c60ca01975951a9927f9adc4455bd11bff1848e7f8788b089418c", func := "ductility/ductilitylaw02.MotionMatches", spec := "motionMatches", unfollowed := true, recurses := true, apart := false }
def MotionMatchesSaid : Prop := motionMatchesRow.holds Try.pinned (OpenSpec.ofChange motionMatchesSpec)

/-- ITS FALSE NEIGHBOUR: 'it returns false'. Refute it at one input. -/
def motionMatchesWrong : ChangeSpec := { name := "motionMatches", fn := fun _ => fun
  | [d1, d2, d3] => { results := [.lit (.bool false)], args := [d1, d2, d3] }
  | _ => none }
def MotionMatchesWrongFalsely : Prop := motionMatchesRow.holds Try.pinned (OpenSpec.ofChange motionMatchesWrong)

/-- 'ductilitylaw02.MotionBands': WHATEVER THE INPUT: true; the input reads as it did. -/
def motionBandsSpec : ChangeSpec := { name := "motionBands", fn := fun _ => fun
  | [d1, d2, d3] => { results := [.lit (.bool true)], args := [d1, d2, d3] }
  | _ => none }
def motionBandsRow : OpenClaim := { program := "ytiibdndchkbefaa", sum := "8c6ab71a301c60ca01975951a9927f9adc4455bd11bff1848e7f8788b089418c", func := "ductility/ductilitylaw02.MotionBands", spec := "motionBands", unfollowed := true, recurses := true, apart := false }
def MotionBandsSaid : Prop := motionBandsRow.holds Try.pinned (OpenSpec.ofChange motionBandsSpec)

/-- ITS FALSE NEIGHBOUR: 'it returns false'. Refute it at one input. -/
def motionBandsWrong : ChangeSpec := { name := "motionBands", fn := fun _ => fun
  | [d1, d2, d3] => { results := [.lit (.bool false)], args := [d1, d2, d3] }
  | _ => none }
def MotionBandsWrongFalsely : Prop := motionBandsRow.holds Try.pinned (OpenSpec.ofChange motionBandsWrong)

/-- 'ductilitylaw02.MotionRecords': WHATEVER THE INPUT: true; the input reads as it did. -/
def motionRecordsSpec : ChangeSpec := { name := "motionRecords", fn := fun _ => fun
  | [d] => { results := [.lit (.bool true)], args := [d] }
  | _ => none }
def motionRecordsRow : OpenClaim := { program := "ytiibdndchkbefaa", sum := "8c6ab71a301c60ca01975951a9927f9adc4455bd11bff1848e7f8788b089418c", func := "ductility/ductilitylaw02.MotionRecords", spec := "motionRecords", unfollowed := true, recurses := true, apart := false }
def MotionRecordsSaid : Prop := motionRecordsRow.holds Try.pinned (OpenSpec.ofChange motionRecordsSpec)

/-- ITS FALSE NEIGHBOUR: 'it returns false'. Refute it at one input. -/
def motionRecordsWrong : ChangeSpec := { name := "motionRecords", fn := fun _ => fun
  | [d] => { results := [.lit (.bool false)], args := [d] }
  | _ => none }
def MotionRecordsWrongFalsely : Prop := motionRecordsRow.holds Try.pinned (OpenSpec.ofChange motionRecordsWrong)

/-- 'ductilitylaw02.MotionResponses': WHATEVER THE INPUT: true; the input reads as it did. -/
def motionResponsesSpec : ChangeSpec := { name := "motionResponses", fn := fun _ => fun
  | [d1, d2, d3] => { results := [.lit (.bool true)], args := [d1, d2, d3] }
  | _ => none }
def motionResponsesRow : OpenClaim := { program := "ytiibdndchkbefaa", sum := "8c6ab71a301c60ca01975951a9927f9adc4455bd11bff1848e7f8788b089418c", func := "ductility/ductilitylaw02.MotionResponses", spec := "motionResponses", unfollowed := true, recurses := true, apart := false }
def MotionResponsesSaid : Prop := motionResponsesRow.holds Try.pinned (OpenSpec.ofChange motionResponsesSpec)

/-- ITS FALSE NEIGHBOUR: 'it returns false'. Refute it at one input. -/
def motionResponsesWrong : ChangeSpec := { name := "motionResponses", fn := fun _ => fun
  | [d1, d2, d3] => { results := [.lit (.bool false)], args := [d1, d2, d3] }
  | _ => none }
def MotionResponsesWrongFalsely : Prop := motionResponsesRow.holds Try.pinned (OpenSpec.ofChange motionResponsesWrong)

/-- 'ductilitylaw02.MotionOpposite': WHATEVER THE INPUT: true; the input reads as it did. -/
def motionOppositeSpec : ChangeSpec := { name := "motionOpposite", fn := fun _ => fun
  | [d1, d2] => { results := [.lit (.bool true)], args := [d1, d2] }
  | _ => none }
def motionOppositeRow : OpenClaim := { program := "ytiibdndchkbefaa", sum := "8c6ab71a301c60ca01975951a9927f9adc4455bd11bff1848e7f8788b089418c", func := "ductility/ductilitylaw02.MotionOpposite", spec := "motionOpposite", unfollowed := true, recurses := true, apart := false }
def MotionOppositeSaid : Prop := motionOppositeRow.holds Try.pinned (OpenSpec.ofChange motionOppositeSpec)

/-- ITS FALSE NEIGHBOUR: 'it returns false'. Refute it at one input. -/
def motionOppositeWrong : ChangeSpec := { name := "motionOpposite", fn := fun _ => fun
  | [d1, d2] => { results := [.lit (.bool false)], args := [d1, d2] }
  | _ => none }
def MotionOppositeWrongFalsely : Prop := motionOppositeRow.holds Try.pinned (OpenSpec.ofChange motionOppositeWrong)

/-- 'ductilitylaw02.MotionInstruments': WHATEVER THE INPUT: true; the input reads as it did. -/
def motionInstrumentsSpec : ChangeSpec := { name := "motionInstruments", fn := fun _ => fun
  | [d1, d2] => { results := [.lit (.bool true)], args := [d1, d2] }
  | _ => none }
def motionInstrumentsRow : OpenClaim := { program := "ytiibdndchkbefaa", sum := "8c6ab71a301c60ca01975951a9927f9adc4455bd11bff1848e7f8788b089418c", func := "ductility/ductilitylaw02.MotionInstruments", spec := "motionInstruments", unfollowed := true, recurses := true, apart := false }
def MotionInstrumentsSaid : Prop := motionInstrumentsRow.holds Try.pinned (OpenSpec.ofChange motionInstrumentsSpec)

/-- ITS FALSE NEIGHBOUR: 'it returns false'. Refute it at one input. -/
def motionInstrumentsWrong : ChangeSpec := { name := "motionInstruments", fn := fun _ => fun
  | [d1, d2] => { results := [.lit (.bool false)], args := [d1, d2] }
  | _ => none }
def MotionInstrumentsWrongFalsely : Prop := motionInstrumentsRow.holds Try.pinned (OpenSpec.ofChange motionInstrumentsWrong)

/-- 'ductilitylaw02.MotionDurations': WHATEVER THE INPUT: true; the input reads as it did. -/
def motionDurationsSpec : ChangeSpec := { name := "motionDurations", fn := fun _ => fun
  | [d1, d2, d3] => { results := [.lit (.bool true)], args := [d1, d2, d3] }
  | _ => none }
def motionDurationsRow : OpenClaim := { program := "ytiibdndchkbefaa", sum := "8c6ab71a301c60ca01975951a9927f9adc4455bd11bff1848e7f8788b089418c", func := "ductility/ductilitylaw02.MotionDurations", spec := "motionDurations", unfollowed := true, recurses := true, apart := false }
def MotionDurationsSaid : Prop := motionDurationsRow.holds Try.pinned (OpenSpec.ofChange motionDurationsSpec)

/-- ITS FALSE NEIGHBOUR: 'it returns false'. Refute it at one input. -/
def motionDurationsWrong : ChangeSpec := { name := "motionDurations", fn := fun _ => fun
  | [d1, d2, d3] => { results := [.lit (.bool false)], args := [d1, d2, d3] }
  | _ => none }
def MotionDurationsWrongFalsely : Prop := motionDurationsRow.holds Try.pinned (OpenSpec.ofChange motionDurationsWrong)

/-- 'ductilitylaw02.MotionWaves': WHATEVER THE INPUT: true; the input reads as it did. -/
def motionWavesSpec : ChangeSpec := { name := "motionWaves", fn := fun _ => fun
  | [d1, d2, d3] => { results := [.lit (.bool true)], args := [d1, d2, d3] }
  | _ => none }
def motionWavesRow : OpenClaim := { program := "ytiibdndchkbefaa", sum := "8c6ab71a301c60ca01975951a9927f9adc4455bd11bff1848e7f8788b089418c", func := "ductility/ductilitylaw02.MotionWaves", spec := "motionWaves", unfollowed := true, recurses := true, apart := false }
def MotionWavesSaid : Prop := motionWavesRow.holds Try.pinned (OpenSpec.ofChange motionWavesSpec)

/-- ITS FALSE NEIGHBOUR: 'it returns false'. Refute it at one input. -/
def motionWavesWrong : ChangeSpec := { name := "motionWaves", fn := fun _ => fun
  | [d1, d2, d3] => { results := [.lit (.bool false)], args := [d1, d2, d3] }
  | _ => none }
def MotionWavesWrongFalsely : Prop := motionWavesRow.holds Try.pinned (OpenSpec.ofChange motionWavesWrong)

/-- 'ductilitylaw02.MotionMatched': WHATEVER THE INPUT: true; the input reads as it did. -/
def motionMatchedSpec : ChangeSpec := { name := "motionMatched", fn := fun _ => fun
  | [d1, d2, d3] => { results := [.lit (.bool true)], args := [d1, d2, d3] }
  | _ => none }
def motionMatchedRow : OpenClaim := { program := "ytiibdndchkbefaa", sum := "8c6ab71a301c60ca01975951a9927f9adc4455bd11bff1848e7f8788b089418c", func := "ductility/ductilitylaw02.MotionMatched", spec := "motionMatched", unfollowed := true, recurses := true, apart := false }
def MotionMatchedSaid : Prop := motionMatchedRow.holds Try.pinned (OpenSpec.ofChange motionMatchedSpec)

/-- ITS FALSE NEIGHBOUR: 'it returns false'. Refute it at one input. -/
def motionMatchedWrong : ChangeSpec := { name := "motionMatched", fn := fun _ => fun
  | [d1, d2, d3] => { results := [.lit (.bool false)], args := [d1, d2, d3] }
  | _ => none }
def MotionMatchedWrongFalsely : Prop := motionMatchedRow.holds Try.pinned (OpenSpec.ofChange motionMatchedWrong)

/-- 'ductilitylaw02.MotionAtRest': WHATEVER THE INPUT: true; the input reads as it did. -/
def motionAtRestSpec : ChangeSpec := { name := "motionAtRest", fn := fun _ => fun
  | [d1, d2, d3] => { results := [.lit (.bool true)], args := [d1, d2, d3] }
  | _ => none }
def motionAtRestRow : OpenClaim := { program := "ytiibdndchkbefaa", sum := "8c6ab71a301c60ca01975951a9927f9adc4455bd11bff1848e7f8788b089418c", func := "ductility/ductilitylaw02.MotionAtRest", spec := "motionAtRest", unfollowed := true, recurses := true, apart := false }
def MotionAtRestSaid : Prop := motionAtRestRow.holds Try.pinned (OpenSpec.ofChange motionAtRestSpec)

/-- ITS FALSE NEIGHBOUR: 'it returns false'. Refute it at one input. -/
def motionAtRestWrong : ChangeSpec := { name := "motionAtRest", fn := fun _ => fun
  | [d1, d2, d3] => { results := [.lit (.bool false)], args := [d1, d2, d3] }
  | _ => none }
def MotionAtRestWrongFalsely : Prop := motionAtRestRow.holds Try.pinned (OpenSpec.ofChange motionAtRestWrong)

/-- 'ductilitylaw02.MotionPeaks': WHATEVER THE INPUT: true; the input reads as it did. -/
def motionPeaksSpec : ChangeSpec := { name := "motionPeaks", fn := fun _ => fun
  | [d1, d2] => { results := [.lit (.bool true)], args := [d1, d2] }
  | _ => none }
def motionPeaksRow : OpenClaim := { program := "ytiibdndchkbefaa", sum := "8c6ab71a301c60ca01975951a9927f9adc4455bd11bff1848e7f8788b089418c", func := "ductility/ductilitylaw02.MotionPeaks", spec := "motionPeaks", unfollowed := true, recurses := true, apart := false }
def MotionPeaksSaid : Prop := motionPeaksRow.holds Try.pinned (OpenSpec.ofChange motionPeaksSpec)

/-- ITS FALSE NEIGHBOUR: 'it returns false'. Refute it at one input. -/
def motionPeaksWrong : ChangeSpec := { name := "motionPeaks", fn := fun _ => fun
  | [d1, d2] => { results := [.lit (.bool false)], args := [d1, d2] }
  | _ => none }
def MotionPeaksWrongFalsely : Prop := motionPeaksRow.holds Try.pinned (OpenSpec.ofChange motionPeaksWrong)

/- THE SECOND FORM. 'bulk': how many values and letters a reading holds, each counted each time it is reached (what is shared counts as often as it is met; a slice's spare places count too). A statement '..UptoSaid' is the law's where the arguments, and the package variables that the reading takes, are together of bulk at most 1048576: NARROWER than '..Said'. Prove '..Said' where nothing that the law and all that it calls make is longer than what came in: it says more and counts as full. Else prove '..UptoSaid'. A law counts once. -/
mutual
def uptoBulk {H : Type} : DataW H → Nat
  | .lit (.string bytes) => bytes.length + 1
  | .lit _ => 1
  | .nil => 1
  | .ptr d => uptoBulk d + 1
  | .slice elems spare => uptoBulkAll elems + uptoBulkAll spare + 1
  | .agg parts => uptoBulkAll parts + 1
  | .iface _ d => uptoBulk d + 1
  | .map entries => uptoBulkEntries entries + 1
  | .held _ => 1
def uptoBulkAll {H : Type} : List (DataW H) → Nat
  | [] => 0
  | d :: r => uptoBulk d + uptoBulkAll r
def uptoBulkEntries {H : Type} : List (Lit × DataW H) → Nat
  | [] => 0
  | x :: r => uptoBulkEntry x + uptoBulkEntries r
def uptoBulkEntry {H : Type} : Lit × DataW H → Nat
  | (.string bytes, d) => bytes.length + uptoBulk d + 1
  | (_, d) => uptoBulk d + 1
 end
def uptoSmall : (H : Type) → List (DataW H) → Bool := fun _ ds => decide (uptoBulkAll ds ≤ 1048576)
def OpenSpec.upto (s : _root_.Go.ChangeSpec) : _root_.Go.OpenSpec := { _root_.Go.OpenSpec.ofChange s with cond := some uptoSmall }

/-- 'ductilitylaw02.MotionMatches', WHERE WHAT IT READS IS OF BULK AT MOST 1048576: true; the input reads as it did. -/
def motionMatchesUptoRow : OpenClaim := { program := "ytiibdndchkbefaa", sum := "8c6ab71a301c60ca01975951a9927f9adc4455bd11bff1848e7f8788b089418c", func := "ductility/ductilitylaw02.MotionMatches", spec := "motionMatches", unfollowed := true, recurses := true, apart := false, narrowed := true }
def MotionMatchesUptoSaid : Prop := motionMatchesUptoRow.holds Try.pinned (OpenSpec.upto motionMatchesSpec)

/-- 'ductilitylaw02.MotionBands', WHERE WHAT IT READS IS OF BULK AT MOST 1048576: true; the input reads as it did. -/
def motionBandsUptoRow : OpenClaim := { program := "ytiibdndchkbefaa", sum := "8c6ab71a301c60ca01975951a9927f9adc4455bd11bff1848e7f8788b089418c", func := "ductility/ductilitylaw02.MotionBands", spec := "motionBands", unfollowed := true, recurses := true, apart := false, narrowed := true }
def MotionBandsUptoSaid : Prop := motionBandsUptoRow.holds Try.pinned (OpenSpec.upto motionBandsSpec)

/-- 'ductilitylaw02.MotionRecords', WHERE WHAT IT READS IS OF BULK AT MOST 1048576: true; the input reads as it did. -/
def motionRecordsUptoRow : OpenClaim := { program := "ytiibdndchkbefaa", sum := "8c6ab71a301c60ca01975951a9927f9adc4455bd11bff1848e7f8788b089418c", func := "ductility/ductilitylaw02.MotionRecords", spec := "motionRecords", unfollowed := true, recurses := true, apart := false, narrowed := true }
def MotionRecordsUptoSaid : Prop := motionRecordsUptoRow.holds Try.pinned (OpenSpec.upto motionRecordsSpec)

/-- 'ductilitylaw02.MotionResponses', WHERE WHAT IT READS IS OF BULK AT MOST 1048576: true; the input reads as it did. -/
def motionResponsesUptoRow : OpenClaim := { program := "ytiibdndchkbefaa", sum := "8c6ab71a301c60ca01975951a9927f9adc4455bd11bff1848e7f8788b089418c", func := "ductility/ductilitylaw02.MotionResponses", spec := "motionResponses", unfollowed := true, recurses := true, apart := false, narrowed := true }
def MotionResponsesUptoSaid : Prop := motionResponsesUptoRow.holds Try.pinned (OpenSpec.upto motionResponsesSpec)

/-- 'ductilitylaw02.MotionOpposite', WHERE WHAT IT READS IS OF BULK AT MOST 1048576: true; the input reads as it did. -/
def motionOppositeUptoRow : OpenClaim := { program := "ytiibdndchkbefaa", sum := "8c6ab71a301c60ca01975951a9927f9adc4455bd11bff1848e7f8788b089418c", func := "ductility/ductilitylaw02.MotionOpposite", spec := "motionOpposite", unfollowed := true, recurses := true, apart := false, narrowed := true }
def MotionOppositeUptoSaid : Prop := motionOppositeUptoRow.holds Try.pinned (OpenSpec.upto motionOppositeSpec)

/-- 'ductilitylaw02.MotionInstruments', WHERE WHAT IT READS IS OF BULK AT MOST 1048576: true; the input reads as it did. -/
def motionInstrumentsUptoRow : OpenClaim := { program := "ytiibdndchkbefaa", sum := "8c6ab71a301c60ca01975951a9927f9adc4455bd11bff1848e7f8788b089418c", func := "ductility/ductilitylaw02.MotionInstruments", spec := "motionInstruments", unfollowed := true, recurses := true, apart := false, narrowed := true }
def MotionInstrumentsUptoSaid : Prop := motionInstrumentsUptoRow.holds Try.pinned (OpenSpec.upto motionInstrumentsSpec)

/-- 'ductilitylaw02.MotionDurations', WHERE WHAT IT READS IS OF BULK AT MOST 1048576: true; the input reads as it did. -/
def motionDurationsUptoRow : OpenClaim := { program := "ytiibdndchkbefaa", sum := "8c6ab71a301c60ca01975951a9927f9adc4455bd11bff1848e7f8788b089418c", func := "ductility/ductilitylaw02.MotionDurations", spec := "motionDurations", unfollowed := true, recurses := true, apart := false, narrowed := true }
def MotionDurationsUptoSaid : Prop := motionDurationsUptoRow.holds Try.pinned (OpenSpec.upto motionDurationsSpec)

/-- 'ductilitylaw02.MotionWaves', WHERE WHAT IT READS IS OF BULK AT MOST 1048576: true; the input reads as it did. -/
def motionWavesUptoRow : OpenClaim := { program := "ytiibdndchkbefaa", sum := "8c6ab71a301c60ca01975951a9927f9adc4455bd11bff1848e7f8788b089418c", func := "ductility/ductilitylaw02.MotionWaves", spec := "motionWaves", unfollowed := true, recurses := true, apart := false, narrowed := true }
def MotionWavesUptoSaid : Prop := motionWavesUptoRow.holds Try.pinned (OpenSpec.upto motionWavesSpec)

/-- 'ductilitylaw02.MotionMatched', WHERE WHAT IT READS IS OF BULK AT MOST 1048576: true; the input reads as it did. -/
def motionMatchedUptoRow : OpenClaim := { program := "ytiibdndchkbefaa", sum := "8c6ab71a301c60ca01975951a9927f9adc4455bd11bff1848e7f8788b089418c", func := "ductility/ductilitylaw02.MotionMatched", spec := "motionMatched", unfollowed := true, recurses := true, apart := false, narrowed := true }
def MotionMatchedUptoSaid : Prop := motionMatchedUptoRow.holds Try.pinned (OpenSpec.upto motionMatchedSpec)

/-- 'ductilitylaw02.MotionAtRest', WHERE WHAT IT READS IS OF BULK AT MOST 1048576: true; the input reads as it did. -/
def motionAtRestUptoRow : OpenClaim := { program := "ytiibdndchkbefaa", sum := "8c6ab71a301c60ca01975951a9927f9adc4455bd11bff1848e7f8788b089418c", func := "ductility/ductilitylaw02.MotionAtRest", spec := "motionAtRest", unfollowed := true, recurses := true, apart := false, narrowed := true }
def MotionAtRestUptoSaid : Prop := motionAtRestUptoRow.holds Try.pinned (OpenSpec.upto motionAtRestSpec)

/-- 'ductilitylaw02.MotionPeaks', WHERE WHAT IT READS IS OF BULK AT MOST 1048576: true; the input reads as it did. -/
def motionPeaksUptoRow : OpenClaim := { program := "ytiibdndchkbefaa", sum := "8c6ab71a301c60ca01975951a9927f9adc4455bd11bff1848e7f8788b089418c", func := "ductility/ductilitylaw02.MotionPeaks", spec := "motionPeaks", unfollowed := true, recurses := true, apart := false, narrowed := true }
def MotionPeaksUptoSaid : Prop := motionPeaksUptoRow.holds Try.pinned (OpenSpec.upto motionPeaksSpec)

end Rows
end Go.Proofs.Ytiibdndchkbefaa
