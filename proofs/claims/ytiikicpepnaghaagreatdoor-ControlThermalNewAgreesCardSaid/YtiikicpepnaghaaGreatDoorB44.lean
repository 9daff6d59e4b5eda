/-
  Part of a proof over this seat: see the last text.
-/
import Derived.Test.YtiikicpepnaghaaGreatDoorA44
import Derived.Test.YtiikicpepnaghaaGreatDoorF44
import Derived.Test.YtiikicpepnaghaaGreatDoorW44
import Derived.Test.YtiikicpepnaghaaGreatDoorVeRow
import Derived.Test.YtiikicpepnaghaaGreatDoorVeLaw
set_option linter.unusedSimpArgs false
set_option linter.unusedVariables false
open Go Go.VE Go.Shelf
namespace Go.Proofs.Tryz.W
attribute [local congr] stepK_cg onOpK_cg callK_cg condK_cg onStillK_cg
theorem prog_ok : progOk prog = true := by kernel_rfl
def ren : Ren := ⟨fun x => if x = 11 then 232 else x, fun x => if x = 24 then 48 else if x = 26 then 3 else if x = 28 then 400 else if x = 33 then 145 else x, fun x => x⟩
theorem lays232 : SlLaysZI.n11 prog ren where
  mixed := by kernel_rfl
  f11 := ⟨"slices.AppendSeq[[]int,int]", by kernel_rfl, by kernel_rfl⟩
  t0 := by kernel_rfl
  a0 := fun w => by kernel_rfl
  z0 := fun w => by kernel_rfl
  v0 := fun w => by kernel_rfl
  t24 := by kernel_rfl
  a24 := fun w => by kernel_rfl
  z24 := fun w => by kernel_rfl
  v24 := fun w => by kernel_rfl
  t26 := by kernel_rfl
  a26 := fun w => by kernel_rfl
  z26 := fun w => by kernel_rfl
  v26 := fun w => by kernel_rfl
  t28 := by kernel_rfl
  a28 := fun w => by kernel_rfl
  z28 := fun w => by kernel_rfl
  v28 := fun w => by kernel_rfl
  i26 := by kernel_rfl

theorem un48' : prog.underlying 48 = some (.slice 3) := un48
theorem run218e (M : Mem) (id off : Nat) (cs : List AVal) (v : AVal) (hv : v = .nilSlice ∨ v = .emptySl) (hM : M.get id = some (.cells cs 1 0)) (hc : cs[off]? = some v) : callW prog Lib.none 218 [.undef, .ptr ⟨id, off, 0, off + 1⟩] M = some (.tuple [], M) := by
  have a1 : argsF [.undef, .ptr ⟨id, off, 0, off + 1⟩] 1 = .ptr ⟨id, off, 0, off + 1⟩ := rfl
  have l1 : evLoad prog M 48 (.ptr ⟨id, off, 0, off + 1⟩) = .val v M := load_one (a := ⟨id, off, 0, off + 1⟩) ag48 hM (Nat.zero_le _) (Nat.le_refl _) hc
  have n1 : Go.VE.builtin prog M .len #[48] [v] = .val (.int .i64 0) M := by
    rcases hv with rfl | rfl <;> simp [Go.VE.builtin, lenV, un48, OpR.ofOpt]
  rw [run218 rfl, J218_0_eq]
  simp +contextual only [a1, stepK_ok, onOpK_val, l1, n1]
  rw [W218_1_eq]
  simp only [fput_some, Nat.reduceEqDiff, if_false, if_true, stepK_ok, onOpK_val, bin_lss, Int.lt_irrefl, decide_false, condK_false]
theorem LA_ok : LibOk prog LA :=
  libOk_add libOk_none (appendSeq_entry (callW_ok prog_ok libOk_none) lays232 (fsq := 218) (fn := f218) (b := c218) (by kernel_rfl) (by kernel_rfl) (by kernel_rfl) (fa := 232) rfl (fna := f232) (by kernel_rfl) (by kernel_rfl) (of_decide_eq_true (by kernel_rfl)) (fun M id off cs v hv hM hc => run218e M id off cs v hv hM hc))
noncomputable def LB : Lib := LA.add 10 yes
theorem LB_ok : LibOk prog LB := libOk_add LA_ok (yes_entry prog_ok LA_ok awake44)
theorem beq_ne {a b : Nat} (h : a ≠ b) : Nat.beq a b = false := by
  cases h' : Nat.beq a b with
  | false => rfl
  | true => exact absurd (Nat.eq_of_beq_eq_true h') h
theorem LB_none (f : FuncId) (h : f ≠ 10) (h' : f ≠ 232) : LB f = none := by
  unfold LB LA Lib.add
  simp only [beq_ne h, beq_ne h']
  rfl
theorem LB_10 : LB 10 = some yes := rfl
theorem own : ownKnob prog.godebug = none := by kernel_rfl
theorem laidOut : laidOutB prog = true := by kernel_rfl
end Go.Proofs.Tryz.W
