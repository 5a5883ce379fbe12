/-
  DERIVED. GIVEN WITH THE SEED: THE CARDS: each row of YteigmjlfpmdmoaaGreatDoorRows.lean that lists a variable, with what it lists TIED to the program's text (the seventh form; the later family's looks); each row that meets fmt, with fmt's text TOLD by the authors' own Lean function (tested against real Go, not proved from fmt's source: count such statements apart). THE CARD IS WHAT COUNTS. Prove the row's statement (the work); the ties are given (YteigmjlfpmdmoaaGreatDoorTie.lean); close each card by the builder's one call (the guide's Derived/Test/ToyasCard.lean, 'card_holds'). Laid BY PROGRAM, IN A SANDBOX (cutbox-door.mjs). By AI agents, Wed Nov 11 2026. No macro, syntax, notation, axiom, sorry.
-/
import Derived.Test.YteigmjlfpmdmoaaGreatDoorRows
import GoSem.ClaimSeven
namespace Go.Proofs.YteigmjlfpmdmoaaGreatDoor
namespace Rows

/-- THE TIED CARD OF 'ductilitytop.TopModalFree'. -/
def topModalFreeCard : Claim7 := { stood := { row := topModalFreeRow, standIns := [], harness := (true, "ce31884720a504e063fead5a5f3e04fd7e098f81d518c8f4f96e756e911421c5"), looks := true }, kinds := [], alts := [], laidByText := true, laidKinds := [.data, .data, .data, .data, .sentinel, .sentinel, .pinned], laidTests := true, laidLooks := .later }
def TopModalFreeCardSaid : Prop := Claim7.holds Tryz.pinned (.plain (OpenSpec.ofChange topModalFreeSpec)) topModalFreeCard

/-- THE TIED CARD OF 'ductilitytop.TopModalTwoWays'. -/
def topModalTwoWaysCard : Claim7 := { stood := { row := topModalTwoWaysRow, standIns := [], harness := (true, "ce31884720a504e063fead5a5f3e04fd7e098f81d518c8f4f96e756e911421c5"), looks := true }, kinds := [], alts := [], laidByText := true, laidKinds := [.data, .data, .data, .data, .sentinel, .sentinel, .pinned], laidTests := true, laidLooks := .later }
def TopModalTwoWaysCardSaid : Prop := Claim7.holds Tryz.pinned (.plain (OpenSpec.ofChange topModalTwoWaysSpec)) topModalTwoWaysCard

/-- THE TIED CARD OF 'ductilitytop.TopModalDamage'. -/
def topModalDamageCard : Claim7 := { stood := { row := topModalDamageRow, standIns := [], harness := (true, "ce31884720a504e063fead5a5f3e04fd7e098f81d518c8f4f96e756e911421c5"), looks := true }, kinds := [], alts := [], laidByText := true, laidKinds := [.data, .data, .data, .data, .sentinel, .sentinel, .pinned], laidTests := true, laidLooks := .later }
def TopModalDamageCardSaid : Prop := Claim7.holds Tryz.pinned (.plain (OpenSpec.ofChange topModalDamageSpec)) topModalDamageCard

/-- THE TIED CARD OF 'ductilitylaw06.ModalStrings'. -/
def modalStringsCard : Claim7 := { stood := { row := modalStringsRow, standIns := [], harness := (true, "ce31884720a504e063fead5a5f3e04fd7e098f81d518c8f4f96e756e911421c5"), looks := true }, kinds := [], alts := [], laidByText := true, laidKinds := [.data, .data, .data, .data, .sentinel, .sentinel, .pinned], laidTests := true, laidLooks := .later }
def ModalStringsCardSaid : Prop := Claim7.holds Tryz.pinned (.plain (OpenSpec.ofChange modalStringsSpec)) modalStringsCard

/-- THE SECOND FORM's CARD OF 'ductilitytop.TopModalFree'. -/
def topModalFreeUptoCard : Claim7 := { stood := { row := topModalFreeUptoRow, standIns := [], harness := (true, "ce31884720a504e063fead5a5f3e04fd7e098f81d518c8f4f96e756e911421c5"), looks := true }, kinds := [], alts := [], laidByText := true, laidKinds := [.data, .data, .data, .data, .sentinel, .sentinel, .pinned], laidTests := true, laidLooks := .later }
def TopModalFreeUptoCardSaid : Prop := Claim7.holds Tryz.pinned (.plain (OpenSpec.upto topModalFreeSpec)) topModalFreeUptoCard

/-- THE SECOND FORM's CARD OF 'ductilitytop.TopModalTwoWays'. -/
def topModalTwoWaysUptoCard : Claim7 := { stood := { row := topModalTwoWaysUptoRow, standIns := [], harness := (true, "ce31884720a504e063fead5a5f3e04fd7e098f81d518c8f4f96e756e911421c5"), looks := true }, kinds := [], alts := [], laidByText := true, laidKinds := [.data, .data, .data, .data, .sentinel, .sentinel, .pinned], laidTests := true, laidLooks := .later }
def TopModalTwoWaysUptoCardSaid : Prop := Claim7.holds Tryz.pinned (.plain (OpenSpec.upto topModalTwoWaysSpec)) topModalTwoWaysUptoCard

/-- THE SECOND FORM's CARD OF 'ductilitytop.TopModalDamage'. -/
def topModalDamageUptoCard : Claim7 := { stood := { row := topModalDamageUptoRow, standIns := [], harness := (true, "ce31884720a504e063fead5a5f3e04fd7e098f81d518c8f4f96e756e911421c5"), looks := true }, kinds := [], alts := [], laidByText := true, laidKinds := [.data, .data, .data, .data, .sentinel, .sentinel, .pinned], laidTests := true, laidLooks := .later }
def TopModalDamageUptoCardSaid : Prop := Claim7.holds Tryz.pinned (.plain (OpenSpec.upto topModalDamageSpec)) topModalDamageUptoCard

/-- THE SECOND FORM's CARD OF 'ductilitylaw06.ModalStrings'. -/
def modalStringsUptoCard : Claim7 := { stood := { row := modalStringsUptoRow, standIns := [], harness := (true, "ce31884720a504e063fead5a5f3e04fd7e098f81d518c8f4f96e756e911421c5"), looks := true }, kinds := [], alts := [], laidByText := true, laidKinds := [.data, .data, .data, .data, .sentinel, .sentinel, .pinned], laidTests := true, laidLooks := .later }
def ModalStringsUptoCardSaid : Prop := Claim7.holds Tryz.pinned (.plain (OpenSpec.upto modalStringsSpec)) modalStringsUptoCard
end Rows
end Go.Proofs.YteigmjlfpmdmoaaGreatDoor
