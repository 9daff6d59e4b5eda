/-
  Part of a proof over this seat: see the last text.
-/
import Derived.Test.YtiikicpepnaghaaGreatDoorTie
import Derived.KernelRfl
import Derived.SevenTiedAt
open Go
namespace Go.Proofs.YtiikicpepnaghaaGreatDoor
theorem looks : true = Tryz.pinned.checked.prog.looks [] := by kernel_rfl
theorem goes1 : ((Tryz.prog.closure 3).any fun g => (Tryz.prog.funcs[g]?).any Func.goes) = false := by kernel_rfl
theorem goes2 : Tryz.prog.funcs.any Func.goes = false := by kernel_rfl
theorem fNamed : Tryz.prog.funcNamed "platformfw/platformfwlaw44.ControlThermalNewAgrees" = some 3 := by kernel_rfl
theorem goes : false = Rows.controlThermalNewAgreesRow.goesBy Tryz.pinned.checked.prog := by
  have h : Tryz.prog.goes 3 = false := by
    unfold Program.goes
    rw [goes1, goes2, Bool.and_false]
    rfl
  have h2 : Tryz.prog.goesAt .entering "platformfw/platformfwlaw44.ControlThermalNewAgrees" = false := by
    unfold Program.goesAt Program.goesFrom
    rw [fNamed]
    simp only [Option.any_some, h, Bool.or_false]
  exact h2.symm
end Go.Proofs.YtiikicpepnaghaaGreatDoor
