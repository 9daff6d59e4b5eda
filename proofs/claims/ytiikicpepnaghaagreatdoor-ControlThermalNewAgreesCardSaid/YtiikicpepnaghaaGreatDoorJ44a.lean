/-
  Part of a proof over this seat: see the last text.
-/
import Derived.Test.YtiikicpepnaghaaGreatDoorTie
import Derived.KernelRfl
import Derived.SevenTiedAt
open Go
namespace Go.Proofs.YtiikicpepnaghaaGreatDoor
abbrev R3 := Rows.controlThermalNewAgreesRow
theorem j1 : (R3.inPlace == Tryz.prog.inPlace 3) = true := by kernel_rfl
theorem j2 : (R3.unfollowed == Tryz.prog.unfollowed 3) = true := by kernel_rfl
theorem j3 : (R3.recurses == Tryz.prog.recurses 3) = true := by kernel_rfl
end Go.Proofs.YtiikicpepnaghaaGreatDoor
