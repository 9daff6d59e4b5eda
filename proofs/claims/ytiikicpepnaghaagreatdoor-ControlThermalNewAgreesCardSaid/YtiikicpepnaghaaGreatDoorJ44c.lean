/-
  Part of a proof over this seat: see the last text.
-/
import Derived.Test.YtiikicpepnaghaaGreatDoorJ44a
import Derived.Test.YtiikicpepnaghaaGreatDoorJ44b
import Derived.Test.YtiikicpepnaghaaGreatDoorJ44e
import Derived.Test.YtiikicpepnaghaaGreatDoorJ44f
import Derived.Test.YtiikicpepnaghaaGreatDoorJ44g
import Derived.SevenTiedAt
import Derived.KernelRfl
open Go
namespace Go.Proofs.YtiikicpepnaghaaGreatDoor
theorem and_t {a b : Bool} (h : a = true) (h' : b = true) : (a && b) = true := by rw [h, h']; rfl
theorem closed : joinedFacts Tryz.prog 3 Tryz.f3 Rows.controlThermalNewAgreesSpec R3 = true := by
  unfold joinedFacts
  exact (and_t (and_t (and_t (and_t (and_t (and_t (and_t (and_t (and_t (and_t (and_t (and_t (and_t (and_t (and_t (and_t (and_t (and_t (and_t (and_t (and_t (and_t (and_t (and_t (and_t (and_t (and_t (and_t (and_t (and_t (and_t k1 k2) k3) k4) k5) (by kernel_rfl)) (by kernel_rfl)) (by kernel_rfl)) (by kernel_rfl)) j1) j2) j3) j4) k6) k7) (by kernel_rfl)) k8) k9) (by kernel_rfl)) (by kernel_rfl)) (by kernel_rfl)) (by kernel_rfl)) k10) (by kernel_rfl)) k11) k12) k13) (by kernel_rfl)) (by kernel_rfl)) (by kernel_rfl)) k14) k15)
end Go.Proofs.YtiikicpepnaghaaGreatDoor
