/-
  Part of a proof over this seat: see the last text.
-/
import Derived.Test.YtiikicpepnaghaaGreatDoorTie
import Derived.KernelRfl
import Derived.SevenTiedAt
open Go
namespace Go.Proofs.YtiikicpepnaghaaGreatDoor
theorem j4a : ((Tryz.prog.closure 3).flatMap fun g => ((Tryz.prog.funcs[g]?).bind (·.body)).elim [] Code.globalsNamed) = [0, 1, 2, 2, 2, 3, 4, 5, 6, 7] := by kernel_rfl
theorem j4b : ((Tryz.prog.closure 3).filterMap fun g => (Tryz.prog.funcs[g]?).bind fun fn => if fn.body.isNone then entryReads.lookup fn.name else none) = ["internal/bytealg.MaxLen"] := by kernel_rfl
theorem j4 : (Rows.controlThermalNewAgreesRow.named == Tryz.prog.varsNamed 3) = true := by
  unfold Program.varsNamed
  rw [j4a, j4b]
  kernel_rfl
end Go.Proofs.YtiikicpepnaghaaGreatDoor
