/-
  Part of a proof over this seat: see the last text.
-/
import Derived.Test.YtmoidmaihlmdpaaGreatDoorLeEff
set_option linter.unusedSimpArgs false
set_option linter.unusedVariables false
open Go Go.VE
namespace Go.Proofs.Tryz.W
theorem a40 : agg? prog 40 = some true := by kernel_rfl
theorem s40 : size? prog 40 = some 3 := by kernel_rfl
theorem a3 : agg? prog 3 = some false := by kernel_rfl
theorem s3 : size? prog 3 = some 1 := by kernel_rfl
theorem a29 : agg? prog 29 = some false := by kernel_rfl
theorem s29 : size? prog 29 = some 1 := by kernel_rfl
theorem u4 : prog.underlying 4 = some .bool := by kernel_rfl
theorem fa40_0 (M : Mem) (a : AAddr) : evFieldAddr prog M 40 (.ptr a) 0 = .val (.ptr ⟨a.id, a.off + 0, a.ep, a.lim⟩) M := by kernel_rfl
theorem fa40_1 (M : Mem) (a : AAddr) : evFieldAddr prog M 40 (.ptr a) 1 = .val (.ptr ⟨a.id, a.off + 1, a.ep, a.lim⟩) M := by kernel_rfl

section
variable {C : Caller} {e : FEnv} {M : Mem} {s : List UInt8}
variable (h14 : ∀ (op : Int) (v : Nat) (s : List UInt8), ∃ a b c, ∀ M, C 14 [I op (.ofNat v) s] M = some (T a b c, M) ∧ C 15 [I op (.ofNat v) s] M = some (T a b c, M))
variable (h9 : ∀ (op : Int) (M : Mem), ∃ r : Int, C 9 [.int .i64 op, .int .i64 37] M = some (.int .i64 r, M))
include h14 h9
theorem round {k : Nat} (hk : k < 3) {id : Nat} {op : Int} {v : Nat} (h1 : e 1 = .ptr ⟨id, 0, 0, 3⟩) (h3 : e 3 = .int .i64 k) (hM : M.get id = some (.cells [.int .i64 op, .int .u64 (.ofNat v), .str s] 0 0)) :
    ∃ (e' : FEnv) (M' : Mem) (op' : Int) (v' : Nat), W5_2 C e M = W5_2 C e' M' ∧ e' 1 = .ptr ⟨id, 0, 0, 3⟩ ∧ e' 3 = .int .i64 (k + 1 : Nat) ∧ M'.get id = some (.cells [.int .i64 op', .int .u64 (.ofNat v'), .str s] 0 0) := by
  obtain ⟨a, b, c, hc⟩ := h14 op v s
  obtain ⟨r, hr⟩ := h9 op M
  have hlt : (k : Int) < 3 := by omega
  have l1 : evLoad prog M 40 (.ptr ⟨id, 0, 0, 3⟩) = .val (I op (.ofNat v) s) M := by rw [load_agg a40 s40 hM (Nat.le_refl _) (Nat.le_refl _)]; rfl
  have l2 : evLoad prog M 3 (.ptr ⟨id, 0 + 0, 0, 3⟩) = .val (.int .i64 op) M := load_one a3 hM (Nat.le_refl _) (by simp) rfl
  have l3 : evStore prog M 3 (.ptr ⟨id, 0 + 0, 0, 3⟩) (.int .i64 r) = .val (.tuple []) (M.set id (.cells [.int .i64 r, .int .u64 (.ofNat v), .str s] 0 0)) := by rw [store_one s3 hM rfl (by show 0 + 0 + 1 ≤ 3; omega) rfl rfl (by show 0 + 0 < 3; omega)]; rfl
  have hM2 : (M.set id (.cells [.int .i64 r, .int .u64 (.ofNat v), .str s] 0 0)).get id = some (.cells [.int .i64 r, .int .u64 (.ofNat v), .str s] 0 0) := by simp
  have l4 : evLoad prog (M.set id (.cells [.int .i64 r, .int .u64 (.ofNat v), .str s] 0 0)) 29 (.ptr ⟨id, 0 + 1, 0, 3⟩) = .val (.int .u64 (.ofNat v)) _ := load_one a29 hM2 (Nat.le_refl _) (by simp) rfl
  have l5 : evStore prog (M.set id (.cells [.int .i64 r, .int .u64 (.ofNat v), .str s] 0 0)) 29 (.ptr ⟨id, 0 + 1, 0, 3⟩) (.int .u64 (Int.tmod (.ofNat v) 10)) = .val (.tuple []) ((M.set id (.cells [.int .i64 r, .int .u64 (.ofNat v), .str s] 0 0)).set id (.cells [.int .i64 r, .int .u64 (Int.tmod (.ofNat v) 10), .str s] 0 0)) := by rw [store_one s29 hM2 rfl (by show 0 + 1 + 1 ≤ 3; omega) rfl rfl (by show 0 + 1 < 3; omega)]; rfl
  have w : IntKind.i64.wrap ((k : Int) + 1) = ((k + 1 : Nat) : Int) := by
    have : k = 0 ∨ k = 1 ∨ k = 2 := by omega
    rcases this with rfl | rfl | rfl <;> rfl
  rw [W5_2_eq]
  simp only [h3, bin_lss, onOpK_val, decide_eq_true hlt, condK_true]
  rw [J5_3_eq]
  simp only [fput_some, h1, l1, onOpK_val, (hc M).1, (hc M).2, callK_some, T, evExtract_tuple, List.getElem?_cons_zero, List.getElem?_cons_succ, ofOpt_some, bin_neq, bne_self_eq_false, wantB_bool, stepK_true, bin_bool_neq u4, evPick_false, condK_false, if_false, Nat.reduceEqDiff, reduceIte, beq_self_eq_true]
  rw [J5_5_eq]
  simp only [fput_some, h1, h3, Nat.reduceEqDiff, if_false, reduceIte, fa40_0, fa40_1, l2, l3, l4, l5, hr, onOpK_val, callK_some, bin_eql, bin_rem (show (10 : Int) ≠ 0 by decide)]
  cases hk1 : ((k : Int) == 1) with
  | true =>
    simp only [condK_true]
    rw [J5_4_eq]
    simp only [fput_some, h1, h3, onOpK_val, bin_add, w, h3, Nat.reduceEqDiff, if_false, reduceIte]
    exact ⟨_, _, r, v % 10, rfl, by simp [h1], by simp, by simp; exact Int.tmod_eq_emod_of_nonneg (Int.natCast_nonneg v)⟩
  | false =>
    simp only [condK_false]
    rw [J5_4_eq]
    simp only [fput_some, h1, h3, Nat.reduceEqDiff, if_false, reduceIte, onOpK_val, bin_add, w]
    exact ⟨_, _, r, v, rfl, by simp [h1], by simp, by simp⟩

variable (h7 : ∀ M, C 7 [] M = some (.bool true, M))
include h7
theorem law (op : Int) (v : Nat) (s : List UInt8) (M : Mem) : ∃ M', J5_0 C (argsF [I op (.ofNat v) s]) M = some (.bool true, M') := by
  rw [J5_0_eq]
  rw [argsF_get]
  simp only [List.getElem?_cons_zero, Option.getD_some]
  rw [evNew_one rfl]
  simp only [onOpK_val]
  obtain ⟨e1, M1, op1, v1, h, a1, a2, a3⟩ := round h14 h9 (e := fput (fput (fput (argsF [I op (.ofNat v) s]) (some 1) (.ptr ⟨M.next, 0, 0, (I op (.ofNat v) s).cells.length⟩)) (some 2) (.bool false)) (some 3) (.int .i64 0)) (M := M.alloc (.cells (I op (.ofNat v) s).cells 0 0)) (k := 0) (by omega) (id := M.next) (op := op) (v := v) (s := s) (by simp; rfl) (by simp) (by simp; rfl)
  rw [h]
  obtain ⟨e2, M2, op2, v2, h, b1, b2, b3⟩ := round h14 h9 (k := 1) (by omega) a1 a2 a3
  rw [h]
  obtain ⟨e3, M3, op3, v3, h, c1, c2, c3⟩ := round h14 h9 (k := 2) (by omega) b1 b2 b3
  rw [h, W5_2_eq]
  have c2 : e3 3 = .int .i64 3 := c2
  simp only [c2, bin_lss, onOpK_val, Int.lt_irrefl, decide_false, condK_false]
  rw [J5_1_eq, h7]
  exact ⟨_, rfl⟩
end
end Go.Proofs.Tryz.W
