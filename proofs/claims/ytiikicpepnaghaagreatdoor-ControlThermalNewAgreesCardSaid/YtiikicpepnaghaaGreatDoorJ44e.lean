/-
  Part of a proof over this seat: see the last text.
-/
import Derived.Test.YtiikicpepnaghaaGreatDoorJ44a
import Derived.Test.YtiikicpepnaghaaGreatDoorJ44b
import Derived.SevenTiedAt
open Go
namespace Go.Proofs.YtiikicpepnaghaaGreatDoor
theorem k1 : R3.wf (OpenSpec.ofChange Rows.controlThermalNewAgreesSpec) = true := by kernel_rfl
theorem k2 : laidOutB Tryz.prog = true := by kernel_rfl
theorem k4 : (Tryz.f3.params.all (Tryz.prog.readableRec ·)) = true := by kernel_rfl
theorem k5 : namedTie Tryz.prog R3.named Rows.controlThermalNewAgreesSpec.vars = true := by kernel_rfl
end Go.Proofs.YtiikicpepnaghaaGreatDoor
