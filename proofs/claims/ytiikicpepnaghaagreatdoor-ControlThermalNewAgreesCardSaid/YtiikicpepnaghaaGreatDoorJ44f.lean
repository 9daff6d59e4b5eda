/-
  Part of a proof over this seat: see the last text.
-/
import Derived.Test.YtiikicpepnaghaaGreatDoorJ44a
import Derived.Test.YtiikicpepnaghaaGreatDoorJ44b
import Derived.SevenTiedAt
open Go
namespace Go.Proofs.YtiikicpepnaghaaGreatDoor
theorem k3 : mapsRowed Tryz.prog = true := by kernel_rfl
theorem k6 : (R3.maps == (Tryz.f3.params.toList ++ Rows.controlThermalNewAgreesSpec.plain.varTypes Tryz.prog).any (Tryz.prog.mapsRec ·)) = true := by kernel_rfl
theorem k7 : (R3.ifaces == (Tryz.f3.params.toList ++ Rows.controlThermalNewAgreesSpec.plain.varTypes Tryz.prog).any (Tryz.prog.ifacesRec ·)) = true := by kernel_rfl
theorem k8 : (R3.loops == (Tryz.f3.params.toList ++ Rows.controlThermalNewAgreesSpec.plain.varTypes Tryz.prog).any (Tryz.prog.loopsFrom ·)) = true := by kernel_rfl
theorem k9 : (R3.wideKeys == (Tryz.f3.params.toList ++ Rows.controlThermalNewAgreesSpec.plain.varTypes Tryz.prog ++ Tryz.f3.resultTypes.toList).any (Tryz.prog.wideKeysFrom ·)) = true := by kernel_rfl
end Go.Proofs.YtiikicpepnaghaaGreatDoor
