/-
  Part of a proof over this seat: see the last text.
-/
import Derived.Test.YtiikicpepnaghaaGreatDoorJ44a
import Derived.Test.YtiikicpepnaghaaGreatDoorJ44b
import Derived.SevenTiedAt
open Go
namespace Go.Proofs.YtiikicpepnaghaaGreatDoor
theorem k10 : (R3.plainKeys == Tryz.prog.plainKeys) = true := by kernel_rfl
theorem k11 : Tryz.prog.stopsHeard = true := by kernel_rfl
theorem k12 : Tryz.prog.mayEnter = true := by kernel_rfl
theorem k13 : (R3.lifted == Tryz.prog.liftsFinal) = true := by kernel_rfl
theorem k14 : (R3.veiled == (Tryz.f3.params.toList ++ Rows.controlThermalNewAgreesSpec.plain.varTypes Tryz.prog ++ Tryz.f3.resultTypes.toList).any (Tryz.prog.veiledRec ·)) = true := by kernel_rfl
theorem k15 : (R3.veiledFits Tryz.prog Tryz.f3.params.toList (Tryz.f3.params.toList ++ Rows.controlThermalNewAgreesSpec.plain.varTypes Tryz.prog ++ Tryz.f3.resultTypes.toList)) = true := by kernel_rfl
end Go.Proofs.YtiikicpepnaghaaGreatDoor
