/-
  Part of a proof over this seat: see the last text.
-/
import Derived.Test.YtmoidmaihlmdpaaGreatDoorVeGround
import Derived.Test.YtmoidmaihlmdpaaGreatDoorProg
import Derived.KernelRfl
open Go Go.VE
namespace Go.Proofs.Tryz.W
theorem prog_ok : progOk prog = true := by kernel_rfl
end Go.Proofs.Tryz.W
