/-
  Part of a proof over this seat: see the last text.
-/
import Derived.Test.YtiikicpepnaghaaGreatDoorVeSeq
import Derived.Test.YtiikicpepnaghaaGreatDoorProg
import Derived.KernelRfl
open Go Go.VE
namespace Go.Proofs.Tryz.W
noncomputable def LA : Lib := Lib.none.add 232 (seqNil 218)
theorem awake44 : isTrue (evCall prog LA 100000 1000 10 [] .empty) = true := by kernel_rfl
end Go.Proofs.Tryz.W
