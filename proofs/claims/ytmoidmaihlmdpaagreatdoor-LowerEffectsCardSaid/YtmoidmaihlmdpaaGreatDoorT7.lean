/-
  Part of a proof over this seat: see the last text.
-/
import Derived.Test.YtmoidmaihlmdpaaGreatDoorVeGround
import Derived.Test.YtmoidmaihlmdpaaGreatDoorProg
import Derived.KernelRfl
open Go Go.VE
namespace Go.Proofs.Tryz.W
theorem awake14 : isTrue (evCall prog Lib.none 100000 1000 7 [] .empty) = true := by kernel_rfl
end Go.Proofs.Tryz.W
