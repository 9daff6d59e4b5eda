/-
  DERIVED. GIVEN WITH THE SEED: THE CARDS: each row of YtiikicpepnaghaaGreatDoorRows.lean that lists a variable, with what it lists TIED to the program's text (the seventh form; the later family's looks); each row that meets fmt, with fmt's text TOLD by the authors' own Lean function (tested against real Go, not proved from fmt's source: count such statements apart). THE CARD IS WHAT COUNTS. Prove the row's statement (the work); the ties are given (YtiikicpepnaghaaGreatDoorTie.lean); close each card by the builder's one call (the guide's Derived/Test/ToyasCard.lean, 'card_holds'). Laid BY PROGRAM, IN A SANDBOX (cutbox-door.mjs). By AI agents, Wed Nov 11 2026. No macro, syntax, notation, axiom, sorry.
-/
import Derived.Test.YtiikicpepnaghaaGreatDoorRows
import GoSem.ClaimSeven
namespace Go.Proofs.YtiikicpepnaghaaGreatDoor
namespace Rows

/-- THE TIED CARD OF 'platformfwlaw44.ControlThermalNewAgrees'. -/
def controlThermalNewAgreesCard : Claim7 := { stood := { row := controlThermalNewAgreesRow, standIns := [], harness := (true, "a875904cef57d5dac4ccc875eac34428d8b6284147a51f9a164dbff9a5280331"), looks := true }, kinds := [], alts := [], laidByText := true, laidKinds := [.data, .data, .data, .data, .sentinel, .sentinel, .pinned], laidTests := true, laidLooks := .later }
def ControlThermalNewAgreesCardSaid : Prop := Claim7.holds Tryz.pinned (.plain (OpenSpec.ofChange controlThermalNewAgreesSpec)) controlThermalNewAgreesCard

/-- THE TIED CARD OF 'platformfwlaw44.ControlKeepsBudget'. -/
def controlKeepsBudgetCard : Claim7 := { stood := { row := controlKeepsBudgetRow, standIns := [], harness := (true, "a875904cef57d5dac4ccc875eac34428d8b6284147a51f9a164dbff9a5280331"), looks := true }, kinds := [], alts := [], laidByText := true, laidKinds := [.data, .data, .data, .data, .sentinel, .sentinel, .pinned], laidTests := true, laidLooks := .later }
def ControlKeepsBudgetCardSaid : Prop := Claim7.holds Tryz.pinned (.plain (OpenSpec.ofChange controlKeepsBudgetSpec)) controlKeepsBudgetCard

/-- THE TIED CARD OF 'platformfwlaw44.ControlCoolsWhenOff'. -/
def controlCoolsWhenOffCard : Claim7 := { stood := { row := controlCoolsWhenOffRow, standIns := [], harness := (true, "a875904cef57d5dac4ccc875eac34428d8b6284147a51f9a164dbff9a5280331"), looks := true }, kinds := [], alts := [], laidByText := true, laidKinds := [.data, .data, .data, .data, .sentinel, .sentinel, .pinned], laidTests := true, laidLooks := .later }
def ControlCoolsWhenOffCardSaid : Prop := Claim7.holds Tryz.pinned (.plain (OpenSpec.ofChange controlCoolsWhenOffSpec)) controlCoolsWhenOffCard

/-- THE TIED CARD OF 'platformfwlaw44.ControlKeepsLimit'. -/
def controlKeepsLimitCard : Claim7 := { stood := { row := controlKeepsLimitRow, standIns := [], harness := (true, "a875904cef57d5dac4ccc875eac34428d8b6284147a51f9a164dbff9a5280331"), looks := true }, kinds := [], alts := [], laidByText := true, laidKinds := [.data, .data, .data, .data, .sentinel, .sentinel, .pinned], laidTests := true, laidLooks := .later }
def ControlKeepsLimitCardSaid : Prop := Claim7.holds Tryz.pinned (.plain (OpenSpec.ofChange controlKeepsLimitSpec)) controlKeepsLimitCard

/-- THE TIED CARD OF 'platformfwlaw44.ControlRestart'. -/
def controlRestartCard : Claim7 := { stood := { row := controlRestartRow, standIns := [], harness := (true, "a875904cef57d5dac4ccc875eac34428d8b6284147a51f9a164dbff9a5280331"), looks := true }, kinds := [], alts := [], laidByText := true, laidKinds := [.data, .data, .data, .data, .sentinel, .sentinel, .pinned], laidTests := true, laidLooks := .later }
def ControlRestartCardSaid : Prop := Claim7.holds Tryz.pinned (.plain (OpenSpec.ofChange controlRestartSpec)) controlRestartCard

/-- THE TIED CARD OF 'platformfwlaw44.ControlFreezeTimeout'. -/
def controlFreezeTimeoutCard : Claim7 := { stood := { row := controlFreezeTimeoutRow, standIns := [], harness := (true, "a875904cef57d5dac4ccc875eac34428d8b6284147a51f9a164dbff9a5280331"), looks := true }, kinds := [], alts := [], laidByText := true, laidKinds := [.data, .data, .data, .data, .sentinel, .sentinel, .pinned], laidTests := true, laidLooks := .later }
def ControlFreezeTimeoutCardSaid : Prop := Claim7.holds Tryz.pinned (.plain (OpenSpec.ofChange controlFreezeTimeoutSpec)) controlFreezeTimeoutCard

/-- THE SECOND FORM's CARD OF 'platformfwlaw44.ControlThermalNewAgrees'. -/
def controlThermalNewAgreesUptoCard : Claim7 := { stood := { row := controlThermalNewAgreesUptoRow, standIns := [], harness := (true, "a875904cef57d5dac4ccc875eac34428d8b6284147a51f9a164dbff9a5280331"), looks := true }, kinds := [], alts := [], laidByText := true, laidKinds := [.data, .data, .data, .data, .sentinel, .sentinel, .pinned], laidTests := true, laidLooks := .later }
def ControlThermalNewAgreesUptoCardSaid : Prop := Claim7.holds Tryz.pinned (.plain (OpenSpec.upto controlThermalNewAgreesSpec)) controlThermalNewAgreesUptoCard

/-- THE SECOND FORM's CARD OF 'platformfwlaw44.ControlKeepsBudget'. -/
def controlKeepsBudgetUptoCard : Claim7 := { stood := { row := controlKeepsBudgetUptoRow, standIns := [], harness := (true, "a875904cef57d5dac4ccc875eac34428d8b6284147a51f9a164dbff9a5280331"), looks := true }, kinds := [], alts := [], laidByText := true, laidKinds := [.data, .data, .data, .data, .sentinel, .sentinel, .pinned], laidTests := true, laidLooks := .later }
def ControlKeepsBudgetUptoCardSaid : Prop := Claim7.holds Tryz.pinned (.plain (OpenSpec.upto controlKeepsBudgetSpec)) controlKeepsBudgetUptoCard

/-- THE SECOND FORM's CARD OF 'platformfwlaw44.ControlCoolsWhenOff'. -/
def controlCoolsWhenOffUptoCard : Claim7 := { stood := { row := controlCoolsWhenOffUptoRow, standIns := [], harness := (true, "a875904cef57d5dac4ccc875eac34428d8b6284147a51f9a164dbff9a5280331"), looks := true }, kinds := [], alts := [], laidByText := true, laidKinds := [.data, .data, .data, .data, .sentinel, .sentinel, .pinned], laidTests := true, laidLooks := .later }
def ControlCoolsWhenOffUptoCardSaid : Prop := Claim7.holds Tryz.pinned (.plain (OpenSpec.upto controlCoolsWhenOffSpec)) controlCoolsWhenOffUptoCard

/-- THE SECOND FORM's CARD OF 'platformfwlaw44.ControlKeepsLimit'. -/
def controlKeepsLimitUptoCard : Claim7 := { stood := { row := controlKeepsLimitUptoRow, standIns := [], harness := (true, "a875904cef57d5dac4ccc875eac34428d8b6284147a51f9a164dbff9a5280331"), looks := true }, kinds := [], alts := [], laidByText := true, laidKinds := [.data, .data, .data, .data, .sentinel, .sentinel, .pinned], laidTests := true, laidLooks := .later }
def ControlKeepsLimitUptoCardSaid : Prop := Claim7.holds Tryz.pinned (.plain (OpenSpec.upto controlKeepsLimitSpec)) controlKeepsLimitUptoCard

/-- THE SECOND FORM's CARD OF 'platformfwlaw44.ControlRestart'. -/
def controlRestartUptoCard : Claim7 := { stood := { row := controlRestartUptoRow, standIns := [], harness := (true, "a875904cef57d5dac4ccc875eac34428d8b6284147a51f9a164dbff9a5280331"), looks := true }, kinds := [], alts := [], laidByText := true, laidKinds := [.data, .data, .data, .data, .sentinel, .sentinel, .pinned], laidTests := true, laidLooks := .later }
def ControlRestartUptoCardSaid : Prop := Claim7.holds Tryz.pinned (.plain (OpenSpec.upto controlRestartSpec)) controlRestartUptoCard

/-- THE SECOND FORM's CARD OF 'platformfwlaw44.ControlFreezeTimeout'. -/
def controlFreezeTimeoutUptoCard : Claim7 := { stood := { row := controlFreezeTimeoutUptoRow, standIns := [], harness := (true, "a875904cef57d5dac4ccc875eac34428d8b6284147a51f9a164dbff9a5280331"), looks := true }, kinds := [], alts := [], laidByText := true, laidKinds := [.data, .data, .data, .data, .sentinel, .sentinel, .pinned], laidTests := true, laidLooks := .later }
def ControlFreezeTimeoutUptoCardSaid : Prop := Claim7.holds Tryz.pinned (.plain (OpenSpec.upto controlFreezeTimeoutSpec)) controlFreezeTimeoutUptoCard
end Rows
end Go.Proofs.YtiikicpepnaghaaGreatDoor
