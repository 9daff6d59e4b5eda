/-
  Part of a proof over this seat: see the last text.
-/
import Derived.Test.YtiikicpepnaghaaGreatDoorW44
import Derived.Test.YtiikicpepnaghaaGreatDoorF44
set_option linter.unusedSimpArgs false
set_option linter.unusedVariables false
open Go Go.VE
namespace Go.Proofs.Tryz.W
attribute [local congr] stepK_cg onOpK_cg callK_cg condK_cg onStillK_cg

abbrev Pt := Int × Int × Int
def ptRow (x : Pt) : List AVal := [.int .u64 x.1, .int .u64 x.2.1, .int .u64 x.2.2]
def Pts (M : Mem) (v : AVal) (l : List Pt) : Prop := Sl M v 3 (l.map ptRow)
def bad1 (x : Pt) : Bool := decide (x.1 < 1) || decide (x.1 > 1099511627776) || decide (x.2.1 > 1099511627776) || decide (x.2.2 > 1099511627776)
def bad2 (x y : Pt) : Bool := decide (y.1 ≤ x.1) || decide (y.2.1 < x.2.1) || decide (y.2.2 < x.2.2)
def okFrom : Option Pt → List Pt → Bool
  | _, [] => true
  | none, y :: r => !bad1 y && okFrom (some y) r
  | some x, y :: r => !bad1 y && !bad2 x y && okFrom (some y) r

theorem z61s : (zero prog 61).solid = true := by kernel_rfl
theorem z61l : (zero prog 61).cells.length = 3 := by kernel_rfl

theorem wrap_i64 {n : Int} (h1 : -9223372036854775808 ≤ n) (h2 : n ≤ 9223372036854775807) : IntKind.i64.wrap n = n := by
  unfold IntKind.wrap; simp [IntKind.bits, IntKind.signed]; omega

theorem w83 (C : Caller) (v : AVal) : ∀ (suf pre : List Pt) (e : FEnv) (M : Mem), Pts M v (pre ++ suf) → M.Fine → e 0 = v → e 3 = .int .i64 (pre.length : Int) → (pre ++ suf).length ≤ 16 →
    ∃ M', W83_3 C e M = some (.int .i64 (if okFrom pre.getLast? suf then 0 else 1), M') ∧ Gr M M' ∧ M'.Fine := by
  intro suf
  induction suf with
  | nil =>
    intro pre e M hP hf h0 h3 hl
    rw [W83_3_eq]
    have hlen := hP.len un42
    simp only [List.append_nil, List.length_map] at hlen
    simp only [h0, h3, stepK_ok, onOpK_val, hlen, bin_lss, Int.lt_irrefl, decide_false, condK_false]
    rw [J83_2_eq]
    simp only [stepK_ok, onOpK_val]
    exact ⟨M, rfl, Gr.refl M, hf⟩
  | cons y r ih =>
    intro pre e M hP hf h0 h3 hl
    have hlen := hP.len un42
    obtain ⟨p, hp1, hp2⟩ := hP.idx un42 sz61 (i := pre.length) (r := ptRow y) (by simp) M
    obtain ⟨M1, M2, b1, b2, b3, b4, b5, _, _⟩ := box_agg (P := prog) (M := M) (t := 61) (vs := ptRow y) z61s z61l sz61 rfl (by omega) hf
    have l0 := hp2.loadAgg (P := prog) ag61 sz61
    have l1 := b5.load0 (P := prog) (t := 24) ag24 (v := .int .u64 y.1) rfl
    have l2 := b5.load (P := prog) (t := 24) ag24 1 (v := .int .u64 y.2.1) rfl
    have l3 := b5.load (P := prog) (t := 24) ag24 2 (v := .int .u64 y.2.2) rfl
    have hlt : ((pre.length : Int) < ((pre ++ y :: r).length : Int)) := by simp; omega
    rw [W83_3_eq]
    simp only [List.length_map] at hlen
    simp only [h0, h3, stepK_ok, onOpK_val, hlen, bin_lss, decide_eq_true hlt, condK_true]
    rw [J83_4_eq]
    simp +contextual only [fput_some, Nat.reduceEqDiff, if_false, if_true, h0, h3, stepK_ok, onOpK_val, hp1, l0, b1, b2, fa61_0, fa61_1, fa61_2, Nat.add_zero, l1, l2, l3, bin_lss, bin_gtr, sel_t, sel_f, stepK_no, wantF, wantT, wantFc, wantTc, step_or, step_and, stepK_val, pick_b, sel_or, sel_and]
    have hb : (decide (y.fst < 1) || decide (y.fst > 1099511627776) || decide (y.snd.fst > 1099511627776) || decide (y.snd.snd > 1099511627776)) = bad1 y := rfl
    rw [hb]
    have hP2 : Pts M2 v (pre ++ y :: r) := hP.ext hf b3
    have next : ∀ (e' : FEnv), e' 0 = v → e' 3 = .int .i64 (pre.length : Int) → okFrom pre.getLast? (y :: r) = okFrom (some y) r → ∃ M', J83_5 C e' M2 = some (.int .i64 (if okFrom pre.getLast? (y :: r) then 0 else 1), M') ∧ Gr M M' ∧ M'.Fine := by
      intro e' h0' h3' hok
      rw [J83_5_eq]
      have hw : IntKind.i64.wrap ((pre.length : Int) + 1) = ((pre ++ [y]).length : Int) := by
        rw [wrap_i64 (by omega) (by simp at hl; omega)]; simp
      simp only [h3', stepK_ok, onOpK_val, bin_add, hw]
      refine Exists.imp (fun M3 h => ⟨h.1.trans ?_, b3.trans h.2.1, h.2.2⟩) (ih (pre ++ [y]) _ M2 (by simpa using hP2) b4 ?_ ?_ (by simpa using hl))
      · simp only [fput_some, Nat.reduceEqDiff, if_false]; exact h0'
      · simp only [fput_some, if_true]
      · rw [hok]; simp
    cases hb1 : bad1 y with
    | true =>
      simp only [condK_true]
      refine ⟨M2, ?_, b3, b4⟩
      have : okFrom pre.getLast? (y :: r) = false := by cases h : pre.getLast? <;> simp [okFrom, hb1]
      simp [this]
    | false =>
      simp only [condK_false]
      rw [J83_6_eq]
      rcases List.eq_nil_or_concat pre with rfl | ⟨p0, x, hpre⟩
      · have hz : ¬ ((0 : Int) > 0) := by decide
        have h3 : e 3 = .int .i64 0 := h3
        simp +contextual only [fput_some, Nat.reduceEqDiff, if_false, if_true, h0, h3, stepK_ok, onOpK_val, bin_gtr, decide_eq_false hz, wantT, wantF, wantS, stepK_no, pick_b, cond_false, condK_false]
        refine next _ ?_ ?_ (by simp [okFrom, hb1])
        · simp only [fput_some, Nat.reduceEqDiff, if_false]; exact h0
        · simp only [fput_some, Nat.reduceEqDiff, if_false]; exact h3
      · rw [List.concat_eq_append] at hpre
        subst hpre
        have hlen2 : ((p0 ++ [x]).length : Int) = (p0.length : Int) + 1 := by simp
        have hz : ((p0 ++ [x]).length : Int) > 0 := by omega
        have hw : IntKind.i64.wrap (((p0 ++ [x]).length : Int) - 1) = (p0.length : Int) := by
          rw [wrap_i64 (by omega) (by simp at hl; omega)]; omega
        obtain ⟨q, hq1, hq2⟩ := hP2.idx un42 sz61 (i := p0.length) (r := ptRow x) (by simp) M2
        have k1 := hq2.load (P := prog) (t := 24) ag24 0 (v := .int .u64 x.1) rfl
        have k2 := hq2.load (P := prog) (t := 24) ag24 1 (v := .int .u64 x.2.1) rfl
        have k3 := hq2.load (P := prog) (t := 24) ag24 2 (v := .int .u64 x.2.2) rfl
        have l1' := b5.load (P := prog) (t := 24) ag24 0 (v := .int .u64 y.1) rfl
        simp +contextual only [fput_some, Nat.reduceEqDiff, if_false, if_true, h0, h3, stepK_ok, onOpK_val, bin_gtr, decide_eq_true hz, wantT, wantF, wantTc, wantFc, sel_t, bin_sub, hw, hq1, fa61_0, fa61_1, fa61_2, k1, k2, k3, l1', l2, l3, bin_leq, bin_lss, stepK_no, step_or, step_and, stepK_val, pick_b, sel_or, sel_and, cond_true, cond_false]
        have hb2 : (decide (y.fst ≤ x.fst) || decide (y.snd.fst < x.snd.fst) || decide (y.snd.snd < x.snd.snd)) = bad2 x y := rfl
        rw [hb2]
        cases hb3 : bad2 x y with
        | true =>
          simp only [condK_true]
          exact ⟨M2, by simp [okFrom, hb1, hb3], b3, b4⟩
        | false =>
          simp only [condK_false]
          refine next _ ?_ ?_ (by simp [okFrom, hb1, hb3])
          · simp only [fput_some, Nat.reduceEqDiff, if_false]; exact h0
          · simp only [fput_some, Nat.reduceEqDiff, if_false]; exact h3
end Go.Proofs.Tryz.W
namespace Go.Proofs.Tryz.W
attribute [local congr] stepK_cg onOpK_cg callK_cg condK_cg onStillK_cg
theorem w135 (C : Caller) (v : AVal) : ∀ (suf pre : List Pt) (e : FEnv) (M : Mem), Pts M v (pre ++ suf) → M.Fine → e 0 = v → e 13 = v → e 14 = .int .i64 ((pre ++ suf).length : Int) → e 15 = .int .i64 (pre.length : Int) → (pre ++ suf).length ≤ 16 →
    ∃ M', W135_3 C e M = some (.int .i64 (if okFrom pre.getLast? suf then 0 else 1), M') ∧ Gr M M' ∧ M'.Fine := by
  intro suf
  induction suf with
  | nil =>
    intro pre e M hP hf h0 h13 h14 h3 hl
    rw [W135_3_eq]
    simp only [List.append_nil] at h14
    simp only [h14, h3, stepK_ok, onOpK_val, bin_lss, Int.lt_irrefl, decide_false, condK_false]
    rw [J135_2_eq]
    simp only [stepK_ok, onOpK_val]
    exact ⟨M, rfl, Gr.refl M, hf⟩
  | cons y r ih =>
    intro pre e M hP hf h0 h13 h14 h3 hl
    have hlen := hP.len un42
    obtain ⟨p, hp1, hp2⟩ := hP.idx un42 sz61 (i := pre.length) (r := ptRow y) (by simp) M
    obtain ⟨M1, M2, b1, b2, b3, b4, b5, _, _⟩ := box_agg (P := prog) (M := M) (t := 61) (vs := ptRow y) z61s z61l sz61 rfl (by omega) hf
    have l0 := hp2.loadAgg (P := prog) ag61 sz61
    have l1 := b5.load0 (P := prog) (t := 24) ag24 (v := .int .u64 y.1) rfl
    have l2 := b5.load (P := prog) (t := 24) ag24 1 (v := .int .u64 y.2.1) rfl
    have l3 := b5.load (P := prog) (t := 24) ag24 2 (v := .int .u64 y.2.2) rfl
    have hlt : ((pre.length : Int) < ((pre ++ y :: r).length : Int)) := by simp; omega
    rw [W135_3_eq]
    simp only [h14, h3, stepK_ok, onOpK_val, bin_lss, decide_eq_true hlt, condK_true]
    rw [J135_4_eq]
    simp +contextual only [fput_some, Nat.reduceEqDiff, if_false, if_true, h0, h13, h14, h3, stepK_ok, onOpK_val, hp1, l0, b1, b2, fa61_0, fa61_1, fa61_2, Nat.add_zero, l1, l2, l3, bin_lss, bin_gtr, sel_t, sel_f, stepK_no, wantF, wantT, wantFc, wantTc, step_or, step_and, stepK_val, pick_b, sel_or, sel_and]
    have hb : (decide (y.fst < 1) || decide (y.fst > 1099511627776) || decide (y.snd.fst > 1099511627776) || decide (y.snd.snd > 1099511627776)) = bad1 y := rfl
    rw [hb]
    have hP2 : Pts M2 v (pre ++ y :: r) := hP.ext hf b3
    have next : ∀ (e' : FEnv), e' 0 = v → e' 13 = v → e' 14 = .int .i64 ((pre ++ y :: r).length : Int) → e' 15 = .int .i64 (pre.length : Int) → okFrom pre.getLast? (y :: r) = okFrom (some y) r → ∃ M', J135_5 C e' M2 = some (.int .i64 (if okFrom pre.getLast? (y :: r) then 0 else 1), M') ∧ Gr M M' ∧ M'.Fine := by
      intro e' h0' h13' h14' h3' hok
      rw [J135_5_eq]
      have hw : IntKind.i64.wrap ((pre.length : Int) + 1) = ((pre ++ [y]).length : Int) := by
        rw [wrap_i64 (by omega) (by simp at hl; omega)]; simp
      simp only [h3', stepK_ok, onOpK_val, bin_add, hw]
      refine Exists.imp (fun M3 h => ⟨h.1.trans ?_, b3.trans h.2.1, h.2.2⟩) (ih (pre ++ [y]) _ M2 (by simpa using hP2) b4 ?_ ?_ ?_ ?_ (by simpa using hl))
      · simp only [fput_some, Nat.reduceEqDiff, if_false]; exact h0'
      · simp only [fput_some, Nat.reduceEqDiff, if_false]; exact h13'
      · simp only [fput_some, Nat.reduceEqDiff, if_false]; simpa using h14'
      · simp only [fput_some, if_true]
      · rw [hok]; simp
    cases hb1 : bad1 y with
    | true =>
      simp only [condK_true]
      refine ⟨M2, ?_, b3, b4⟩
      have : okFrom pre.getLast? (y :: r) = false := by cases h : pre.getLast? <;> simp [okFrom, hb1]
      simp [this]
    | false =>
      simp only [condK_false]
      rw [J135_6_eq]
      rcases List.eq_nil_or_concat pre with rfl | ⟨p0, x, hpre⟩
      · have hz : ¬ (((([] : List Pt).length : Nat) : Int) > 0) := by simp
        simp +contextual only [fput_some, Nat.reduceEqDiff, if_false, if_true, h0, h3, stepK_ok, onOpK_val, bin_gtr, decide_eq_false hz, wantT, wantF, wantS, stepK_no, pick_b, cond_false, condK_false]
        refine next _ ?_ ?_ ?_ ?_ (by simp [okFrom, hb1])
        · simp only [fput_some, Nat.reduceEqDiff, if_false]; exact h0
        · simp only [fput_some, Nat.reduceEqDiff, if_false]; exact h13
        · simp only [fput_some, Nat.reduceEqDiff, if_false]; exact h14
        · simp only [fput_some, Nat.reduceEqDiff, if_false]; exact h3
      · rw [List.concat_eq_append] at hpre
        subst hpre
        have hlen2 : ((p0 ++ [x]).length : Int) = (p0.length : Int) + 1 := by simp
        have hz : ((p0 ++ [x]).length : Int) > 0 := by omega
        have hw : IntKind.i64.wrap (((p0 ++ [x]).length : Int) - 1) = (p0.length : Int) := by
          rw [wrap_i64 (by omega) (by simp at hl; omega)]; omega
        obtain ⟨q, hq1, hq2⟩ := hP2.idx un42 sz61 (i := p0.length) (r := ptRow x) (by simp) M2
        have k1 := hq2.load (P := prog) (t := 24) ag24 0 (v := .int .u64 x.1) rfl
        have k2 := hq2.load (P := prog) (t := 24) ag24 1 (v := .int .u64 x.2.1) rfl
        have k3 := hq2.load (P := prog) (t := 24) ag24 2 (v := .int .u64 x.2.2) rfl
        have l1' := b5.load (P := prog) (t := 24) ag24 0 (v := .int .u64 y.1) rfl
        simp +contextual only [fput_some, Nat.reduceEqDiff, if_false, if_true, h0, h3, stepK_ok, onOpK_val, bin_gtr, decide_eq_true hz, wantT, wantF, wantTc, wantFc, sel_t, bin_sub, hw, hq1, fa61_0, fa61_1, fa61_2, k1, k2, k3, l1', l2, l3, bin_leq, bin_lss, stepK_no, step_or, step_and, stepK_val, pick_b, sel_or, sel_and, cond_true, cond_false]
        have hb2 : (decide (y.fst ≤ x.fst) || decide (y.snd.fst < x.snd.fst) || decide (y.snd.snd < x.snd.snd)) = bad2 x y := rfl
        rw [hb2]
        cases hb3 : bad2 x y with
        | true =>
          simp only [condK_true]
          exact ⟨M2, by simp [okFrom, hb1, hb3], b3, b4⟩
        | false =>
          simp only [condK_false]
          refine next _ ?_ ?_ ?_ ?_ (by simp [okFrom, hb1, hb3])
          · simp only [fput_some, Nat.reduceEqDiff, if_false]; exact h0
          · simp only [fput_some, Nat.reduceEqDiff, if_false]; exact h13
          · simp only [fput_some, Nat.reduceEqDiff, if_false]; exact h14
          · simp only [fput_some, Nat.reduceEqDiff, if_false]; exact h3
end Go.Proofs.Tryz.W
namespace Go.Proofs.Tryz.W
attribute [local congr] stepK_cg onOpK_cg callK_cg condK_cg onStillK_cg

/-- What both checks of a table say. -/
def chk (l : List Pt) : Int := if (decide ((l.length : Int) < 1) || decide ((l.length : Int) > 16)) = true then 1 else if okFrom none l then 0 else 1

theorem check83 (C : Caller) {v : AVal} {l : List Pt} {M : Mem} (hP : Pts M v l) (hf : M.Fine) : ∃ M', J83_0 C (argsF [v]) M = some (.int .i64 (chk l), M') ∧ Gr M M' ∧ M'.Fine := by
  have hlen := hP.len un42
  simp only [List.length_map] at hlen
  have a0 : argsF [v] 0 = v := rfl
  rw [J83_0_eq]
  simp +contextual only [fput_some, Nat.reduceEqDiff, if_false, if_true, a0, stepK_ok, onOpK_val, hlen, bin_lss, bin_gtr, wantF, stepK_val, sel_t, pick_b, sel_or]
  unfold chk
  cases h : (decide ((l.length : Int) < 1) || decide ((l.length : Int) > 16)) with
  | true =>
    simp only [condK_true, stepK_ok, onOpK_val, if_true]
    exact ⟨M, rfl, Gr.refl M, hf⟩
  | false =>
    simp only [condK_false, Bool.false_eq_true, if_false]
    rw [J83_1_eq]
    simp only [stepK_ok, onOpK_val]
    have hl : l.length ≤ 16 := by
      simp only [Bool.or_eq_false_iff, decide_eq_false_iff_not] at h; omega
    refine Exists.imp (fun M' h => ⟨h.1.trans ?_, h.2⟩) (w83 C v l [] _ M hP hf ?_ ?_ hl)
    · simp only [fput_some, Nat.reduceEqDiff, if_false]; exact a0
    · simp only [fput_some, if_true]; rfl
    · rfl

theorem check135 (C : Caller) {v : AVal} {l : List Pt} {M : Mem} (hP : Pts M v l) (hf : M.Fine) : ∃ M', J135_0 C (argsF [v]) M = some (.int .i64 (chk l), M') ∧ Gr M M' ∧ M'.Fine := by
  have hlen := hP.len un42
  simp only [List.length_map] at hlen
  have a0 : argsF [v] 0 = v := rfl
  rw [J135_0_eq]
  simp +contextual only [fput_some, Nat.reduceEqDiff, if_false, if_true, a0, stepK_ok, onOpK_val, hlen, bin_lss, bin_gtr, wantF, stepK_val, sel_t, pick_b, sel_or]
  unfold chk
  cases h : (decide ((l.length : Int) < 1) || decide ((l.length : Int) > 16)) with
  | true =>
    simp only [condK_true, stepK_ok, onOpK_val, if_true]
    exact ⟨M, rfl, Gr.refl M, hf⟩
  | false =>
    simp only [condK_false, Bool.false_eq_true, if_false]
    rw [J135_1_eq]
    simp only [fput_some, Nat.reduceEqDiff, if_false, a0, stepK_ok, onOpK_val, hlen]
    have hl : l.length ≤ 16 := by
      simp only [Bool.or_eq_false_iff, decide_eq_false_iff_not] at h; omega
    refine Exists.imp (fun M' h => ⟨h.1.trans ?_, h.2⟩) (w135 C v l [] _ M hP hf ?_ ?_ ?_ ?_ hl)
    · simp only [fput_some, Nat.reduceEqDiff, if_false]; exact a0
    · simp only [fput_some, Nat.reduceEqDiff, if_false, if_true]
    · simp only [fput_some, Nat.reduceEqDiff, if_false, if_true]; rfl
    · simp only [fput_some, if_true]; rfl
    · rfl
end Go.Proofs.Tryz.W
namespace Go.Proofs.Tryz.W
attribute [local congr] stepK_cg onOpK_cg callK_cg condK_cg onStillK_cg
abbrev Tp := Int × Int × Int
def tpRow (x : Tp) : List AVal := [.int .i64 x.1, .int .i64 x.2.1, .int .i64 x.2.2]
def Tps (M : Mem) (v : AVal) (l : List Tp) : Prop := Sl M v 3 (l.map tpRow)
def badT (y : Tp) : Bool := decide (y.1 < 1) || decide (y.1 > 3) || decide (y.2.1 < -67108864) || decide (y.2.1 > 67108864) || decide (y.2.2 < 0) || decide (y.2.2 > 16777216)
def chkT (l : List Tp) : Int := if decide ((l.length : Int) > 12) = true then 1 else if l.any badT then 1 else 0
theorem z205s : (zero prog 205).solid = true := by kernel_rfl
theorem z205l : (zero prog 205).cells.length = 3 := by kernel_rfl

theorem w136 (C : Caller) (v : AVal) : ∀ (suf pre : List Tp) (e : FEnv) (M : Mem), Tps M v (pre ++ suf) → M.Fine → e 8 = v → e 9 = .int .i64 ((pre ++ suf).length : Int) → e 10 = .int .i64 (pre.length : Int) → (pre ++ suf).length ≤ 12 →
    ∃ M', W136_3 C e M = some (.int .i64 (if suf.any badT then 1 else 0), M') ∧ Gr M M' ∧ M'.Fine := by
  intro suf
  induction suf with
  | nil =>
    intro pre e M hP hf h8 h9 h3 hl
    rw [W136_3_eq]
    simp only [List.append_nil] at h9
    simp only [h8, h9, h3, stepK_ok, onOpK_val,  bin_lss, Int.lt_irrefl, decide_false, condK_false]
    rw [J136_2_eq]
    simp only [stepK_ok, onOpK_val]
    exact ⟨M, rfl, Gr.refl M, hf⟩
  | cons y r ih =>
    intro pre e M hP hf h8 h9 h3 hl
    have hlen := hP.len un43
    obtain ⟨p, hp1, hp2⟩ := hP.idx un43 sz205 (i := pre.length) (r := tpRow y) (by simp) M
    obtain ⟨M1, M2, b1, b2, b3, b4, b5, _, _⟩ := box_agg (P := prog) (M := M) (t := 205) (vs := tpRow y) z205s z205l sz205 rfl (by omega) hf
    have l0 := hp2.loadAgg (P := prog) ag205 sz205
    have l1 := b5.load (P := prog) (t := 3) ag3 0 (v := .int .i64 y.1) rfl
    have l2 := b5.load (P := prog) (t := 2) ag2 1 (v := .int .i64 y.2.1) rfl
    have l3 := b5.load (P := prog) (t := 2) ag2 2 (v := .int .i64 y.2.2) rfl
    have hlt : ((pre.length : Int) < ((pre ++ y :: r).length : Int)) := by simp; omega
    rw [W136_3_eq]
    simp only [List.length_map] at hlen
    simp only [h8, h9, h3, stepK_ok, onOpK_val, hlen, bin_lss, decide_eq_true hlt, condK_true]
    rw [J136_4_eq]
    simp +contextual only [fput_some, Nat.reduceEqDiff, if_false, if_true, h8, h9, h3, stepK_ok, onOpK_val, hp1, l0, b1, b2, fa205_0, fa205_1, fa205_2, l1, l2, l3, bin_lss, bin_gtr, sel_t, sel_f, stepK_no, wantF, wantT, wantFc, wantTc, step_or, step_and, stepK_val, pick_b, sel_or, sel_and]
    have hb : (decide (y.fst < 1) || decide (y.fst > 3) || decide (y.snd.fst < -67108864) || decide (y.snd.fst > 67108864) || decide (y.snd.snd < 0) || decide (y.snd.snd > 16777216)) = badT y := rfl
    rw [hb]
    have hP2 : Tps M2 v (pre ++ y :: r) := hP.ext hf b3
    cases hb1 : badT y with
    | true =>
      simp only [condK_true, stepK_ok, onOpK_val]
      exact ⟨M2, by rw [List.any_cons, hb1]; rfl, b3, b4⟩
    | false =>
      simp only [condK_false]
      rw [J136_5_eq]
      have hw : IntKind.i64.wrap ((pre.length : Int) + 1) = ((pre ++ [y]).length : Int) := by
        rw [wrap_i64 (by omega) (by simp at hl; omega)]; simp
      simp only [fput_some, Nat.reduceEqDiff, if_false, if_true, h8, h9, h3, stepK_ok, onOpK_val, bin_add, hw]
      refine Exists.imp (fun M3 h => ⟨h.1.trans ?_, b3.trans h.2.1, h.2.2⟩) (ih (pre ++ [y]) _ M2 (by simpa using hP2) b4 ?_ ?_ ?_ (by simpa using hl))
      · simp only [fput_some, Nat.reduceEqDiff, if_false]; exact h8
      · simp only [fput_some, Nat.reduceEqDiff, if_false]; simpa using h9
      · simp only [fput_some, if_true]
      · rw [List.any_cons, hb1, Bool.false_or]

theorem w84 (C : Caller) (v : AVal) : ∀ (suf pre : List Tp) (e : FEnv) (M : Mem), Tps M v (pre ++ suf) → M.Fine → e 0 = v → e 3 = .int .i64 (pre.length : Int) → (pre ++ suf).length ≤ 12 →
    ∃ M', W84_3 C e M = some (.int .i64 (if suf.any badT then 1 else 0), M') ∧ Gr M M' ∧ M'.Fine := by
  intro suf
  induction suf with
  | nil =>
    intro pre e M hP hf h0 h3 hl
    rw [W84_3_eq]
    have hlen := hP.len un43
    simp only [List.append_nil, List.length_map] at hlen
    simp only [h0, h3, stepK_ok, onOpK_val, hlen, bin_lss, Int.lt_irrefl, decide_false, condK_false]
    rw [J84_2_eq]
    simp only [stepK_ok, onOpK_val]
    exact ⟨M, rfl, Gr.refl M, hf⟩
  | cons y r ih =>
    intro pre e M hP hf h0 h3 hl
    have hlen := hP.len un43
    obtain ⟨p, hp1, hp2⟩ := hP.idx un43 sz205 (i := pre.length) (r := tpRow y) (by simp) M
    obtain ⟨M1, M2, b1, b2, b3, b4, b5, _, _⟩ := box_agg (P := prog) (M := M) (t := 205) (vs := tpRow y) z205s z205l sz205 rfl (by omega) hf
    have l0 := hp2.loadAgg (P := prog) ag205 sz205
    have l1 := b5.load (P := prog) (t := 3) ag3 0 (v := .int .i64 y.1) rfl
    have l2 := b5.load (P := prog) (t := 2) ag2 1 (v := .int .i64 y.2.1) rfl
    have l3 := b5.load (P := prog) (t := 2) ag2 2 (v := .int .i64 y.2.2) rfl
    have hlt : ((pre.length : Int) < ((pre ++ y :: r).length : Int)) := by simp; omega
    rw [W84_3_eq]
    simp only [List.length_map] at hlen
    simp only [h0, h3, stepK_ok, onOpK_val, hlen, bin_lss, decide_eq_true hlt, condK_true]
    rw [J84_4_eq]
    simp +contextual only [fput_some, Nat.reduceEqDiff, if_false, if_true, h0, h3, stepK_ok, onOpK_val, hp1, l0, b1, b2, fa205_0, fa205_1, fa205_2, l1, l2, l3, bin_lss, bin_gtr, sel_t, sel_f, stepK_no, wantF, wantT, wantFc, wantTc, step_or, step_and, stepK_val, pick_b, sel_or, sel_and]
    have hb : (decide (y.fst < 1) || decide (y.fst > 3) || decide (y.snd.fst < -67108864) || decide (y.snd.fst > 67108864) || decide (y.snd.snd < 0) || decide (y.snd.snd > 16777216)) = badT y := rfl
    rw [hb]
    have hP2 : Tps M2 v (pre ++ y :: r) := hP.ext hf b3
    cases hb1 : badT y with
    | true =>
      simp only [condK_true, stepK_ok, onOpK_val]
      exact ⟨M2, by rw [List.any_cons, hb1]; rfl, b3, b4⟩
    | false =>
      simp only [condK_false]
      rw [J84_5_eq]
      have hw : IntKind.i64.wrap ((pre.length : Int) + 1) = ((pre ++ [y]).length : Int) := by
        rw [wrap_i64 (by omega) (by simp at hl; omega)]; simp
      simp only [fput_some, Nat.reduceEqDiff, if_false, if_true, h0, h3, stepK_ok, onOpK_val, bin_add, hw]
      refine Exists.imp (fun M3 h => ⟨h.1.trans ?_, b3.trans h.2.1, h.2.2⟩) (ih (pre ++ [y]) _ M2 (by simpa using hP2) b4 ?_ ?_ (by simpa using hl))
      · simp only [fput_some, Nat.reduceEqDiff, if_false]; exact h0
      · simp only [fput_some, if_true]
      · rw [List.any_cons, hb1, Bool.false_or]

theorem trips136 (C : Caller) {v : AVal} {l : List Tp} {M : Mem} (hP : Tps M v l) (hf : M.Fine) : ∃ M', J136_0 C (argsF [v]) M = some (.int .i64 (chkT l), M') ∧ Gr M M' ∧ M'.Fine := by
  have hlen := hP.len un43
  simp only [List.length_map] at hlen
  have a0 : argsF [v] 0 = v := rfl
  rw [J136_0_eq]
  simp +contextual only [fput_some, Nat.reduceEqDiff, if_false, if_true, a0, stepK_ok, onOpK_val, hlen, bin_gtr]
  unfold chkT
  cases h : decide ((l.length : Int) > 12) with
  | true =>
    simp only [condK_true, stepK_ok, onOpK_val, if_true]
    exact ⟨M, rfl, Gr.refl M, hf⟩
  | false =>
    simp only [condK_false, Bool.false_eq_true, if_false]
    rw [J136_1_eq]
    simp only [fput_some, Nat.reduceEqDiff, if_false, a0, stepK_ok, onOpK_val, hlen]
    have hl : l.length ≤ 12 := by
      simp only [decide_eq_false_iff_not] at h; omega
    refine Exists.imp (fun M' h => ⟨h.1.trans ?_, h.2⟩) (w136 C v l [] _ M hP hf ?_ ?_ ?_ hl)
    · simp only [fput_some, Nat.reduceEqDiff, if_false, if_true]
    · simp only [fput_some, Nat.reduceEqDiff, if_false, if_true]; rfl
    · simp only [fput_some, if_true]; rfl
    · rfl

theorem trips84 (C : Caller) {v : AVal} {l : List Tp} {M : Mem} (hP : Tps M v l) (hf : M.Fine) : ∃ M', J84_0 C (argsF [v]) M = some (.int .i64 (chkT l), M') ∧ Gr M M' ∧ M'.Fine := by
  have hlen := hP.len un43
  simp only [List.length_map] at hlen
  have a0 : argsF [v] 0 = v := rfl
  rw [J84_0_eq]
  simp +contextual only [fput_some, Nat.reduceEqDiff, if_false, if_true, a0, stepK_ok, onOpK_val, hlen, bin_gtr]
  unfold chkT
  cases h : decide ((l.length : Int) > 12) with
  | true =>
    simp only [condK_true, stepK_ok, onOpK_val, if_true]
    exact ⟨M, rfl, Gr.refl M, hf⟩
  | false =>
    simp only [condK_false, Bool.false_eq_true, if_false]
    rw [J84_1_eq]
    simp only [fput_some, Nat.reduceEqDiff, if_false, a0, stepK_ok, onOpK_val, hlen]
    have hl : l.length ≤ 12 := by
      simp only [decide_eq_false_iff_not] at h; omega
    refine Exists.imp (fun M' h => ⟨h.1.trans ?_, h.2⟩) (w84 C v l [] _ M hP hf ?_ ?_ hl)
    · simp only [fput_some, Nat.reduceEqDiff, if_false]; exact a0
    · simp only [fput_some, if_true]; rfl
    · rfl
end Go.Proofs.Tryz.W
namespace Go.Proofs.Tryz.W
attribute [local congr] stepK_cg onOpK_cg callK_cg condK_cg onStillK_cg
abbrev Lk := Int × Int × Int
def lkRow (x : Lk) : List AVal := [.int .i64 x.1, .int .i64 x.2.1, .int .i64 x.2.2]
def Lks (M : Mem) (v : AVal) (l : List Lk) : Prop := Sl M v 3 (l.map lkRow)
def inR (x lo : Int) : Bool := decide (x ≥ lo) && decide (x ≤ 16777216)
def conn (a b : Lk) : Bool := a.1 == b.1 && a.2.1 == b.2.1 || a.1 == b.2.1 && a.2.1 == b.1

theorem con122 (C : Caller) (x lo : Int) (M : Mem) : J122_0 C (argsF [.int .i64 x, .int .i64 lo]) M = some (.bool (inR x lo), M) := by
  have a0 : argsF [.int .i64 x, .int .i64 lo] 0 = .int .i64 x := rfl
  have a1 : argsF [.int .i64 x, .int .i64 lo] 1 = .int .i64 lo := rfl
  rw [J122_0_eq]
  simp +contextual only [a0, a1, stepK_ok, onOpK_val, bin_geq, bin_leq, sel_t, wantT, stepK_val, pick_b, sel_and]
  rfl

theorem con167 (C : Caller) (a b : Lk) {M : Mem} (hf : M.Fine) : ∃ M', J167_0 C (argsF [.agg (lkRow a), .agg (lkRow b)]) M = some (.bool (conn a b), M') ∧ Gr M M' ∧ M'.Fine := by
  have a0 : argsF [.agg (lkRow a), .agg (lkRow b)] 0 = .agg (lkRow a) := rfl
  have a1 : argsF [.agg (lkRow a), .agg (lkRow b)] 1 = .agg (lkRow b) := rfl
  obtain ⟨M1, b1, b2, b3, b4, _⟩ := new_agg (M := M) (vs := lkRow a) hf
  obtain ⟨M2, d1, d2, d3, d4, _⟩ := new_agg (M := M1) (vs := lkRow b) b3
  have e4 := b4.ext b3 d2
  have l0 := e4.load (P := prog) (t := 3) ag3 0 (v := .int .i64 a.1) rfl
  have l1 := e4.load (P := prog) (t := 3) ag3 1 (v := .int .i64 a.2.1) rfl
  have k0 := d4.load (P := prog) (t := 3) ag3 0 (v := .int .i64 b.1) rfl
  have k1 := d4.load (P := prog) (t := 3) ag3 1 (v := .int .i64 b.2.1) rfl
  rw [J167_0_eq]
  simp +contextual only [a0, a1, b1, d1, stepK_ok, onOpK_val, fa210_0, fa210_1, l0, l1, k0, k1, bin_eql, sel_t, sel_f, stepK_no, wantF, wantT, wantFc, wantTc, step_or, step_and, stepK_val, pick_b, sel_or, sel_and]
  refine ⟨M2, ?_, b2.trans d2, d3⟩
  simp only [conn]
  cases hp : (a.1 == b.1 && a.2.1 == b.2.1) <;> cases hq : (a.1 == b.2.1) <;> cases hr : (a.2.1 == b.1) <;> (cases h1 : (a.1 == b.1) <;> cases h2 : (a.2.1 == b.2.1) <;> simp_all [cond, sel])
end Go.Proofs.Tryz.W
namespace Go.Proofs.Tryz.W
attribute [local congr] stepK_cg onOpK_cg callK_cg condK_cg onStillK_cg

/-- What the caller knows of connects. -/
def K167 (C : Caller) : Prop := ∀ (a b : Lk) (M : Mem), M.Fine → ∃ M', C 167 [.agg (lkRow a), .agg (lkRow b)] M = some (.bool (conn a b), M') ∧ Gr M M' ∧ M'.Fine
def K166 (C : Caller) : Prop := ∀ (a b : Lk) (p : AAddr) (M : Mem), M.Fine → El M p (lkRow b) → ∃ M', C 166 [.agg (lkRow a), .ptr p] M = some (.bool (conn b a), M') ∧ Gr M M' ∧ M'.Fine
/-- The first place where f holds, counted from n. -/
def fIdx (f : Lk → Bool) : Nat → List Lk → Int
  | _, [] => -1
  | n, y :: r => if f y = true then (n : Int) else fIdx f (n + 1) r
theorem fIdx_any (f : Lk → Bool) : ∀ (l : List Lk) (n : Nat), decide (fIdx f n l ≥ 0) = l.any f := by
  intro l
  induction l with
  | nil => intro n; rfl
  | cons y r ih =>
    intro n
    unfold fIdx
    cases h : f y with
    | true => simp [h]
    | false => simp only [Bool.false_eq_true, if_false, List.any_cons, h, Bool.false_or]; exact ih (n + 1)
def K203 (C : Caller) : Prop := ∀ (v : AVal) (l : List Lk) (b : Lk) (p : AAddr) (M : Mem), M.Fine → Lks M v l → El M p (lkRow b) → (l.length : Int) < 4611686018427387904 → ∃ M', C 203 [v, .func 166 [.ptr p]] M = some (.int .i64 (fIdx (conn b) 0 l), M') ∧ Gr M M' ∧ M'.Fine

theorem con166 (C : Caller) (hC : K167 C) (a b : Lk) {p : AAddr} {M : Mem} (hf : M.Fine) (hp : El M p (lkRow b)) : ∃ M', J166_0 C (argsF [.agg (lkRow a), .ptr p]) M = some (.bool (conn b a), M') ∧ Gr M M' ∧ M'.Fine := by
  have a0 : argsF [.agg (lkRow a), .ptr p] 0 = .agg (lkRow a) := rfl
  have a1 : argsF [.agg (lkRow a), .ptr p] 1 = .ptr p := rfl
  obtain ⟨M1, b1, b2, b3, b4, _⟩ := new_agg (M := M) (vs := lkRow a) hf
  have l0 := (hp.ext hf b2).loadAgg (P := prog) ag210 sz210
  have l1 := b4.loadAgg (P := prog) ag210 sz210
  obtain ⟨M2, d1, d2, d3⟩ := hC b a M1 b3
  rw [J166_0_eq]
  simp +contextual only [a0, a1, b1, stepK_ok, onOpK_val, l0, l1, onOpK_call, callK_some, d1]
  exact ⟨M2, rfl, b2.trans d2, d3⟩

theorem callee166 (M : Mem) (p : AAddr) (x : AVal) : evCallee prog M (.func 166 [.ptr p]) [x] = .call 166 [x, .ptr p] := by
  unfold evCallee
  have h : (prog.funcs[166]?).bind extOf = none := by kernel_rfl
  simp only [h, List.cons_append, List.nil_append]

theorem w203 (C : Caller) (hC : K166 C) (v : AVal) (b : Lk) (p : AAddr) : ∀ (suf pre : List Lk) (e : FEnv) (M : Mem), Lks M v (pre ++ suf) → El M p (lkRow b) → M.Fine → e 0 = v → e 1 = .func 166 [.ptr p] → e 7 = .int .i64 ((pre ++ suf).length : Int) → e 8 = .int .i64 (pre.length : Int) → ((pre ++ suf).length : Int) < 4611686018427387904 →
    ∃ M', W203_2 C e M = some (.int .i64 (fIdx (conn b) pre.length suf), M') ∧ Gr M M' ∧ M'.Fine := by
  intro suf
  induction suf with
  | nil =>
    intro pre e M hP hq hf h0 h1 h7 h8 hl
    rw [W203_2_eq]
    simp only [List.append_nil] at h7
    simp only [h7, h8, stepK_ok, onOpK_val, bin_lss, Int.lt_irrefl, decide_false, condK_false]
    rw [J203_1_eq]
    simp only [stepK_ok, onOpK_val]
    exact ⟨M, rfl, Gr.refl M, hf⟩
  | cons y r ih =>
    intro pre e M hP hq hf h0 h1 h7 h8 hl
    obtain ⟨q, hp1, hp2⟩ := hP.idx un23 sz210 (i := pre.length) (r := lkRow y) (by simp) M
    have l0 := hp2.loadAgg (P := prog) ag210 sz210
    obtain ⟨M2, d1, d2, d3⟩ := hC y b p M hf hq
    have hP2 : Lks M2 v (pre ++ y :: r) := hP.ext hf d2
    have hlt : ((pre.length : Int) < ((pre ++ y :: r).length : Int)) := by simp; omega
    rw [W203_2_eq]
    simp only [h7, h8, stepK_ok, onOpK_val, bin_lss, decide_eq_true hlt, condK_true]
    rw [J203_3_eq]
    simp +contextual only [fput_some, Nat.reduceEqDiff, if_false, if_true, h0, h1, h7, h8, stepK_ok, onOpK_val, hp1, l0, callee166, onOpK_call, callK_some, d1]
    unfold fIdx
    cases hb : conn b y with
    | true =>
      simp only [condK_true, stepK_ok, onOpK_val, if_true]
      exact ⟨M2, rfl, d2, d3⟩
    | false =>
      simp only [condK_false, Bool.false_eq_true, if_false]
      rw [J203_4_eq]
      have hw : IntKind.i64.wrap ((pre.length : Int) + 1) = ((pre ++ [y]).length : Int) := by
        rw [wrap_i64 (by omega) (by simp at hl; omega)]; simp
      simp only [fput_some, Nat.reduceEqDiff, if_false, if_true, h8, stepK_ok, onOpK_val, bin_add, hw]
      refine Exists.imp (fun M3 h => ⟨h.1.trans ?_, d2.trans h.2.1, h.2.2⟩) (ih (pre ++ [y]) _ M2 (by simpa using hP2) (hq.ext hf d2) d3 ?_ ?_ ?_ ?_ (by simpa using hl))
      · simp only [fput_some, Nat.reduceEqDiff, if_false]; exact h0
      · simp only [fput_some, Nat.reduceEqDiff, if_false]; exact h1
      · simp only [fput_some, Nat.reduceEqDiff, if_false]; simpa using h7
      · simp only [fput_some, if_true]
      · simp

theorem con203 (C : Caller) (hC : K166 C) {v : AVal} {l : List Lk} (b : Lk) {p : AAddr} {M : Mem} (hP : Lks M v l) (hq : El M p (lkRow b)) (hf : M.Fine) (hl : (l.length : Int) < 4611686018427387904) :
    ∃ M', J203_0 C (argsF [v, .func 166 [.ptr p]]) M = some (.int .i64 (fIdx (conn b) 0 l), M') ∧ Gr M M' ∧ M'.Fine := by
  have hlen := hP.len un23
  simp only [List.length_map] at hlen
  have a0 : argsF [v, .func 166 [.ptr p]] 0 = v := rfl
  have a1 : argsF [v, .func 166 [.ptr p]] 1 = .func 166 [.ptr p] := rfl
  rw [J203_0_eq]
  simp +contextual only [fput_some, Nat.reduceEqDiff, if_false, if_true, a0, stepK_ok, onOpK_val, hlen]
  refine w203 C hC v b p l [] _ M hP hq hf ?_ ?_ ?_ ?_ hl
  · simp only [fput_some, Nat.reduceEqDiff, if_false]; exact a0
  · simp only [fput_some, Nat.reduceEqDiff, if_false]; exact a1
  · simp only [fput_some, Nat.reduceEqDiff, if_false, if_true]; rfl
  · simp only [fput_some, if_true]; rfl

theorem con165 (C : Caller) (hC : K203 C) {v : AVal} {l : List Lk} (b : Lk) {p : AAddr} {M : Mem} (hP : Lks M v l) (hq : El M p (lkRow b)) (hf : M.Fine) (hl : (l.length : Int) < 4611686018427387904) :
    ∃ M', J165_0 C (argsF [v, .func 166 [.ptr p]]) M = some (.bool (l.any (conn b)), M') ∧ Gr M M' ∧ M'.Fine := by
  have a0 : argsF [v, .func 166 [.ptr p]] 0 = v := rfl
  have a1 : argsF [v, .func 166 [.ptr p]] 1 = .func 166 [.ptr p] := rfl
  obtain ⟨M2, d1, d2, d3⟩ := hC v l b p M hf hP hq hl
  rw [J165_0_eq]
  simp +contextual only [a0, a1, stepK_ok, onOpK_val, onOpK_call, callK_some, d1, bin_geq, fIdx_any]
  exact ⟨M2, rfl, d2, d3⟩

theorem k167 {L : Lib} (h : L 167 = none) : K167 (callW prog L) := fun a b M hf => by rw [run167 h]; exact con167 _ a b hf
theorem k166 {L : Lib} (h : L 166 = none) (h' : L 167 = none) : K166 (callW prog L) := fun a b p M hf hp => by rw [run166 h]; exact con166 _ (k167 h') a b hf hp
theorem k203 {L : Lib} (h : L 203 = none) (h' : K166 (callW prog L)) : K203 (callW prog L) := fun v l b p M hf hP hq hl => by rw [run203 h]; exact con203 _ h' b hP hq hf hl
end Go.Proofs.Tryz.W
namespace Go.Proofs.Tryz.W
attribute [local congr] stepK_cg onOpK_cg callK_cg condK_cg onStillK_cg

def K122 (C : Caller) : Prop := ∀ (x lo : Int) (M : Mem), C 122 [.int .i64 x, .int .i64 lo] M = some (.bool (inR x lo), M)
def K165 (C : Caller) : Prop := ∀ (v : AVal) (l : List Lk) (b : Lk) (p : AAddr) (M : Mem), M.Fine → Lks M v l → El M p (lkRow b) → (l.length : Int) < 4611686018427387904 → ∃ M', C 165 [v, .func 166 [.ptr p]] M = some (.bool (l.any (conn b)), M') ∧ Gr M M' ∧ M'.Fine
theorem k122 {L : Lib} (h : L 122 = none) : K122 (callW prog L) := fun x lo M => by rw [run122 h]; exact con122 _ x lo M
theorem k165 {L : Lib} (h : L 165 = none) (h' : K203 (callW prog L)) : K165 (callW prog L) := fun v l b p M hf hP hq hl => by rw [run165 h]; exact con165 _ h' b hP hq hf hl

def badL (n : Int) (y : Lk) : Bool := decide (y.1 < 0) || decide (y.1 ≥ n) || decide (y.2.1 < 0) || decide (y.2.1 ≥ n) || (y.1 == y.2.1) || !inR y.2.2 1
def lksOk (n : Int) : List Lk → List Lk → Bool
  | _, [] => true
  | pre, y :: r => !badL n y && (!pre.any (conn y) && lksOk n (pre ++ [y]) r)
theorem z210s : (zero prog 210).solid = true := by kernel_rfl
theorem z210l : (zero prog 210).cells.length = 3 := by kernel_rfl

theorem w123 (C : Caller) (h2 : K122 C) (h5 : K165 C) (v : AVal) (n : Int) : ∀ (suf pre : List Lk) (e : FEnv) (M : Mem), Lks M v (pre ++ suf) → M.Fine → e 0 = .int .i64 n → e 1 = v → e 7 = v → e 8 = .int .i64 ((pre ++ suf).length : Int) → e 9 = .int .i64 (pre.length : Int) → ((pre ++ suf).length : Int) < 4611686018427387904 →
    ∃ M', W123_2 C e M = some (.bool (lksOk n pre suf), M') ∧ Gr M M' ∧ M'.Fine := by
  intro suf
  induction suf with
  | nil =>
    intro pre e M hP hf g0 g1 g7 g8 g9 hl
    rw [W123_2_eq]
    simp only [List.append_nil] at g8
    simp only [g8, g9, stepK_ok, onOpK_val, bin_lss, Int.lt_irrefl, decide_false, condK_false]
    rw [J123_1_eq]
    simp only [stepK_ok, onOpK_val]
    exact ⟨M, rfl, Gr.refl M, hf⟩
  | cons y r ih =>
    intro pre e M hP hf g0 g1 g7 g8 g9 hl
    obtain ⟨q, hp1, hp2⟩ := hP.idx un23 sz210 (i := pre.length) (r := lkRow y) (by simp) M
    have l0 := hp2.loadAgg (P := prog) ag210 sz210
    obtain ⟨M1, M2, b1, b2, b3, b4, b5, _, _⟩ := box_agg (P := prog) (M := M) (t := 210) (vs := lkRow y) z210s z210l sz210 rfl (by omega) hf
    have l1 := b5.load (P := prog) (t := 3) ag3 0 (v := .int .i64 y.1) rfl
    have l2 := b5.load (P := prog) (t := 3) ag3 1 (v := .int .i64 y.2.1) rfl
    have l3 := b5.load (P := prog) (t := 2) ag2 2 (v := .int .i64 y.2.2) rfl
    have hP2 : Lks M2 v (pre ++ y :: r) := hP.ext hf b3
    have hlt : ((pre.length : Int) < ((pre ++ y :: r).length : Int)) := by simp; omega
    have ht : ((pre ++ y :: r).map lkRow).take pre.length = pre.map lkRow := by simp
    obtain ⟨v', s1, s2⟩ := Sl.take (P := prog) hP2 un23 sz210 (i := pre.length) (by simp) (by simp) M2
    rw [ht] at s2
    obtain ⟨M3, d1, d2, d3⟩ := h5 v' pre y _ M2 b4 s2 b5 (by simp at hl; omega)
    have c22 : ∀ (g : Bool) (k : AVal → Mem → Res), stepK C M2 (some g) (.call 122 [.int .i64 y.2.2, .int .i64 1]) k = k (sel (some g) (.bool (inR y.2.2 1))) M2 := fun g k => step_call (h2 y.2.2 1 M2)
    rw [W123_2_eq]
    simp only [g8, g9, stepK_ok, onOpK_val, bin_lss, decide_eq_true hlt, condK_true]
    rw [J123_3_eq]
    simp +contextual only [fput_some, Nat.reduceEqDiff, if_false, if_true, g0, g1, g7, g8, g9, stepK_ok, onOpK_val, hp1, l0, b1, b2, fa210_0, fa210_1, fa210_2, l1, l2, l3, bin_lss, bin_geq, bin_eql, c22, un_not, ofOpt_some, sel_t, sel_f, stepK_no, wantF, wantT, wantS, wantFc, wantTc, step_or, step_and, stepK_val, pick_b, sel_or, sel_and]
    have hb : (decide (y.fst < 0) || decide (y.fst ≥ n) || decide (y.snd.fst < 0) || decide (y.snd.fst ≥ n) || y.fst == y.snd.fst || !inR y.snd.snd 1) = badL n y := rfl
    rw [hb]
    unfold lksOk
    cases hb1 : badL n y with
    | true =>
      simp only [condK_true]
      exact ⟨M2, rfl, b3, b4⟩
    | false =>
      simp only [condK_false, Bool.not_false, Bool.true_and]
      rw [J123_5_eq]
      simp +contextual only [fput_some, Nat.reduceEqDiff, if_false, if_true, g0, g1, g7, g8, g9, stepK_ok, onOpK_val, s1, onOpK_call, callK_some, d1]
      cases hc : pre.any (conn y) with
      | true =>
        simp only [condK_true, stepK_ok, onOpK_val]
        exact ⟨M3, rfl, b3.trans d2, d3⟩
      | false =>
        simp only [condK_false, Bool.not_false, Bool.true_and]
        rw [J123_4_eq]
        have hw : IntKind.i64.wrap ((pre.length : Int) + 1) = ((pre ++ [y]).length : Int) := by
          rw [wrap_i64 (by omega) (by simp at hl; omega)]; simp
        have hP3 : Lks M3 v (pre ++ y :: r) := hP2.ext b4 d2
        simp only [fput_some, Nat.reduceEqDiff, if_false, if_true, g9, stepK_ok, onOpK_val, bin_add, hw]
        refine Exists.imp (fun M4 h => ⟨h.1, (b3.trans d2).trans h.2.1, h.2.2⟩) (ih (pre ++ [y]) _ M3 (by simpa using hP3) d3 ?_ ?_ ?_ ?_ ?_ (by simpa using hl))
        · simp only [fput_some, Nat.reduceEqDiff, if_false]; exact g0
        · simp only [fput_some, Nat.reduceEqDiff, if_false]; exact g1
        · simp only [fput_some, Nat.reduceEqDiff, if_false]; exact g7
        · simp only [fput_some, Nat.reduceEqDiff, if_false]; simpa using g8
        · simp only [fput_some, if_true]

theorem con123 (C : Caller) (h2 : K122 C) (h5 : K165 C) (n : Int) {v : AVal} {l : List Lk} {M : Mem} (hP : Lks M v l) (hf : M.Fine) (hl : (l.length : Int) < 4611686018427387904) :
    ∃ M', J123_0 C (argsF [.int .i64 n, v]) M = some (.bool (lksOk n [] l), M') ∧ Gr M M' ∧ M'.Fine := by
  have hlen := hP.len un23
  simp only [List.length_map] at hlen
  have a0 : argsF [.int .i64 n, v] 0 = .int .i64 n := rfl
  have a1 : argsF [.int .i64 n, v] 1 = v := rfl
  rw [J123_0_eq]
  simp +contextual only [fput_some, Nat.reduceEqDiff, if_false, if_true, a1, stepK_ok, onOpK_val, hlen]
  refine w123 C h2 h5 v n l [] _ M hP hf ?_ ?_ ?_ ?_ ?_ hl
  · simp only [fput_some, Nat.reduceEqDiff, if_false]; exact a0
  · simp only [fput_some, Nat.reduceEqDiff, if_false]; exact a1
  · simp only [fput_some, Nat.reduceEqDiff, if_false, if_true]
  · simp only [fput_some, Nat.reduceEqDiff, if_false, if_true]; rfl
  · simp only [fput_some, if_true]; rfl
def K123 (C : Caller) : Prop := ∀ (n : Int) (v : AVal) (l : List Lk) (M : Mem), M.Fine → Lks M v l → (l.length : Int) < 4611686018427387904 → ∃ M', C 123 [.int .i64 n, v] M = some (.bool (lksOk n [] l), M') ∧ Gr M M' ∧ M'.Fine
theorem k123 {L : Lib} (h : L 123 = none) (h2 : K122 (callW prog L)) (h5 : K165 (callW prog L)) : K123 (callW prog L) := fun n v l M hf hP hl => by rw [run123 h]; exact con123 _ h2 h5 n hP hf hl
end Go.Proofs.Tryz.W
namespace Go.Proofs.Tryz.W
attribute [local congr] stepK_cg onOpK_cg callK_cg condK_cg onStillK_cg

abbrev Hr := Int × Int
def hrRow (x : Hr) : List AVal := [.int .i64 x.1, .int .i64 x.2]
def Hrs (M : Mem) (v : AVal) (l : List Hr) : Prop := Sl M v 2 (l.map hrRow)
def at_ (y : Lk) (i : Int) : Bool := (y.1 == i) || (y.2.1 == i)
/-- What row i needs, links of the list added to acc. -/
def need (i : Int) : Int → List Lk → Int
  | acc, [] => acc
  | acc, y :: r => need i (if at_ y i = true then IntKind.i64.wrap (acc + y.2.2) else acc) r
def S80 (e e' : FEnv) : Prop := e' 0 = e 0 ∧ e' 1 = e 1 ∧ e' 7 = e 7 ∧ e' 8 = e 8 ∧ e' 32 = e 32 ∧ e' 33 = e 33 ∧ e' 34 = e 34
theorem S80.trans {a b c : FEnv} (h : S80 a b) (h' : S80 b c) : S80 a c :=
  ⟨h'.1.trans h.1, h'.2.1.trans h.2.1, h'.2.2.1.trans h.2.2.1, h'.2.2.2.1.trans h.2.2.2.1, h'.2.2.2.2.1.trans h.2.2.2.2.1, h'.2.2.2.2.2.1.trans h.2.2.2.2.2.1, h'.2.2.2.2.2.2.trans h.2.2.2.2.2.2⟩

theorem w80i (C : Caller) (v : AVal) (i : Int) : ∀ (suf pre : List Lk) (e : FEnv) (M : Mem) (acc : Int), Lks M v (pre ++ suf) → M.Fine → e 7 = .int .i64 i → e 9 = .int .i64 acc → e 51 = v → e 52 = .int .i64 ((pre ++ suf).length : Int) → e 53 = .int .i64 (pre.length : Int) → ((pre ++ suf).length : Int) < 4611686018427387904 →
    ∃ e' M', W80_8 C e M = J80_7 C e' M' ∧ Gr M M' ∧ M'.Fine ∧ e' 9 = .int .i64 (need i acc suf) ∧ S80 e e' := by
  intro suf
  induction suf with
  | nil =>
    intro pre e M acc hP hf g7 g9 g51 g52 g53 hl
    rw [W80_8_eq]
    simp only [List.append_nil] at g52
    simp only [g52, g53, stepK_ok, onOpK_val, bin_lss, Int.lt_irrefl, decide_false, condK_false]
    refine ⟨_, M, rfl, Gr.refl M, hf, ?_, ?_⟩
    · simp only [fput_some, Nat.reduceEqDiff, if_false]; exact g9
    · simp only [S80, fput_some, Nat.reduceEqDiff, if_false, and_self]
  | cons y r ih =>
    intro pre e M acc hP hf g7 g9 g51 g52 g53 hl
    obtain ⟨q, hp1, hp2⟩ := hP.idx un23 sz210 (i := pre.length) (r := lkRow y) (by simp) M
    have l0 := hp2.loadAgg (P := prog) ag210 sz210
    obtain ⟨M1, M2, b1, b2, b3, b4, b5, _, _⟩ := box_agg (P := prog) (M := M) (t := 210) (vs := lkRow y) z210s z210l sz210 rfl (by omega) hf
    have l1 := b5.load (P := prog) (t := 3) ag3 0 (v := .int .i64 y.1) rfl
    have l2 := b5.load (P := prog) (t := 3) ag3 1 (v := .int .i64 y.2.1) rfl
    have l3 := b5.load (P := prog) (t := 2) ag2 2 (v := .int .i64 y.2.2) rfl
    have hP2 : Lks M2 v (pre ++ y :: r) := hP.ext hf b3
    have hlt : ((pre.length : Int) < ((pre ++ y :: r).length : Int)) := by simp; omega
    have hw : IntKind.i64.wrap ((pre.length : Int) + 1) = ((pre ++ [y]).length : Int) := by
      rw [wrap_i64 (by omega) (by simp at hl; omega)]; simp
    rw [W80_8_eq]
    simp only [g52, g53, stepK_ok, onOpK_val, bin_lss, decide_eq_true hlt, condK_true]
    rw [J80_9_eq]
    simp +contextual only [fput_some, Nat.reduceEqDiff, if_false, if_true, g7, g9, g51, g52, g53, stepK_ok, onOpK_val, hp1, l0, b1, b2, fa210_0, fa210_1, fa210_2, l1, l2, l3, bin_lss, bin_geq, bin_eql, bin_add, sel_t, sel_f, stepK_no, wantF, wantT, wantS, wantFc, wantTc, step_or, step_and, stepK_val, pick_b, sel_or, sel_and]
    have hb : ((y.fst == i) || (y.snd.fst == i)) = at_ y i := rfl
    rw [hb]
    unfold need
    cases hb1 : at_ y i with
    | true =>
      simp only [condK_true, if_true]
      rw [J80_10_eq]
      simp only [fput_some, Nat.reduceEqDiff, if_false, if_true, g53, stepK_ok, onOpK_val, bin_add, hw]
      refine Exists.imp (fun e' h => Exists.imp (fun M4 h => ⟨h.1, b3.trans h.2.1, h.2.2.1, h.2.2.2.1, S80.trans ?_ h.2.2.2.2⟩) h) (ih (pre ++ [y]) _ M2 (IntKind.i64.wrap (acc + y.2.2)) (by simpa using hP2) b4 ?_ ?_ ?_ ?_ ?_ (by simpa using hl))
      · simp only [S80, fput_some, Nat.reduceEqDiff, if_false, and_self]
      · simp only [fput_some, Nat.reduceEqDiff, if_false]; exact g7
      · simp only [fput_some, Nat.reduceEqDiff, if_false, if_true]
      · simp only [fput_some, Nat.reduceEqDiff, if_false]; exact g51
      · simp only [fput_some, Nat.reduceEqDiff, if_false]; simpa using g52
      · simp only [fput_some, if_true]
    | false =>
      simp only [condK_false, Bool.false_eq_true, if_false]
      rw [J80_10_eq]
      simp only [fput_some, Nat.reduceEqDiff, if_false, if_true, g53, stepK_ok, onOpK_val, bin_add, hw]
      refine Exists.imp (fun e' h => Exists.imp (fun M4 h => ⟨h.1, b3.trans h.2.1, h.2.2.1, h.2.2.2.1, S80.trans ?_ h.2.2.2.2⟩) h) (ih (pre ++ [y]) _ M2 acc (by simpa using hP2) b4 ?_ ?_ ?_ ?_ ?_ (by simpa using hl))
      · simp only [S80, fput_some, Nat.reduceEqDiff, if_false, and_self]
      · simp only [fput_some, Nat.reduceEqDiff, if_false]; exact g7
      · simp only [fput_some, Nat.reduceEqDiff, if_false]; exact g9
      · simp only [fput_some, Nat.reduceEqDiff, if_false]; exact g51
      · simp only [fput_some, Nat.reduceEqDiff, if_false]; simpa using g52
      · simp only [fput_some, if_true]
end Go.Proofs.Tryz.W
namespace Go.Proofs.Tryz.W
attribute [local congr] stepK_cg onOpK_cg callK_cg condK_cg onStillK_cg

theorem z41s : (zero prog 41).solid = true := by kernel_rfl
theorem z41l : (zero prog 41).cells.length = 2 := by kernel_rfl
def badH (y : Hr) : Bool := !inR y.1 1 || !inR y.2 1
def rowsOk (ls : List Lk) : Nat → List Hr → Bool
  | _, [] => true
  | i, y :: r => !badH y && (!decide (y.1 < need (i : Int) y.2 ls) && rowsOk ls (i + 1) r)

theorem w80 (C : Caller) (h2 : K122 C) (v w : AVal) (ls : List Lk) (hls : (ls.length : Int) < 4611686018427387904) : ∀ (suf pre : List Hr) (e : FEnv) (M : Mem), Hrs M v (pre ++ suf) → Lks M w ls → M.Fine → e 1 = w → e 32 = v → e 33 = .int .i64 ((pre ++ suf).length : Int) → e 34 = .int .i64 (pre.length : Int) → ((pre ++ suf).length : Int) < 4611686018427387904 →
    ∃ M', W80_3 C e M = some (.bool (rowsOk ls pre.length suf), M') ∧ Gr M M' ∧ M'.Fine := by
  intro suf
  induction suf with
  | nil =>
    intro pre e M hP hQ hf g1 g32 g33 g34 hl
    rw [W80_3_eq]
    simp only [List.append_nil] at g33
    simp only [g33, g34, stepK_ok, onOpK_val, bin_lss, Int.lt_irrefl, decide_false, condK_false]
    rw [J80_2_eq]
    simp only [stepK_ok, onOpK_val]
    exact ⟨M, rfl, Gr.refl M, hf⟩
  | cons y r ih =>
    intro pre e M hP hQ hf g1 g32 g33 g34 hl
    obtain ⟨q, hp1, hp2⟩ := hP.idx un104 sz41 (i := pre.length) (r := hrRow y) (by simp) M
    have l0 := hp2.loadAgg (P := prog) ag41 sz41
    obtain ⟨M1, M2, b1, b2, b3, b4, b5, _, _⟩ := box_agg (P := prog) (M := M) (t := 41) (vs := hrRow y) z41s z41l sz41 rfl (by omega) hf
    have l1 := b5.load (P := prog) (t := 2) ag2 0 (v := .int .i64 y.1) rfl
    have l2 := b5.load (P := prog) (t := 2) ag2 1 (v := .int .i64 y.2) rfl
    have hP2 : Hrs M2 v (pre ++ y :: r) := hP.ext hf b3
    have hQ2 : Lks M2 w ls := hQ.ext hf b3
    have hlen := hQ2.len un23
    simp only [List.length_map] at hlen
    have hlt : ((pre.length : Int) < ((pre ++ y :: r).length : Int)) := by simp; omega
    have hw : IntKind.i64.wrap ((pre.length : Int) + 1) = ((pre ++ [y]).length : Int) := by
      rw [wrap_i64 (by omega) (by simp at hl; omega)]; simp
    have c1 := h2 y.1 1 M2
    have c2 : ∀ (g : Bool) (k : AVal → Mem → Res), stepK C M2 (some g) (.call 122 [.int .i64 y.2, .int .i64 1]) k = k (sel (some g) (.bool (inR y.2 1))) M2 := fun g k => step_call (h2 y.2 1 M2)
    rw [W80_3_eq]
    simp only [g33, g34, stepK_ok, onOpK_val, bin_lss, decide_eq_true hlt, condK_true]
    rw [J80_4_eq]
    simp +contextual only [fput_some, Nat.reduceEqDiff, if_false, if_true, g1, g32, g33, g34, stepK_ok, onOpK_val, onOpK_call, callK_some, hp1, l0, b1, b2, fa41_0, fa41_1, l1, l2, c1, c2, un_not, ofOpt_some, bin_lss, sel_t, sel_f, stepK_no, wantF, wantT, wantS, wantFc, wantTc, step_or, step_and, stepK_val, pick_b, sel_or, sel_and]
    have hb : (!inR y.1 1 || !inR y.2 1) = badH y := rfl
    rw [hb]
    unfold rowsOk
    cases hb1 : badH y with
    | true =>
      simp only [condK_true]
      exact ⟨M2, rfl, b3, b4⟩
    | false =>
      simp only [condK_false, Bool.not_false, Bool.true_and]
      have inner : ∀ E : FEnv, E 1 = w → E 7 = .int .i64 (pre.length : Int) → E 8 = .ptr ⟨M.next, 0, 0, 2⟩ → E 9 = .int .i64 y.2 → E 32 = v → E 33 = .int .i64 ((pre ++ y :: r).length : Int) → E 34 = .int .i64 (pre.length : Int) → E 51 = w → E 52 = .int .i64 (ls.length : Int) → E 53 = .int .i64 0 →
          ∃ M', W80_8 C E M2 = some (.bool (!decide (y.1 < need (pre.length : Int) y.2 ls) && rowsOk ls (pre.length + 1) r), M') ∧ Gr M M' ∧ M'.Fine := by
        intro E x1 x7 x8 x9 x32 x33 x34 x51 x52 x53
        obtain ⟨e', M3, i1, i2, i3, i4, i5⟩ := w80i C w (pre.length : Int) ls [] E M2 y.2 hQ2 b4 x7 x9 x51 x52 x53 hls
        rw [i1]
        obtain ⟨s0, s1, s7, s8, s32, s33, s34⟩ := i5
        rw [x1] at s1; rw [x8] at s8; rw [x32] at s32; rw [x33] at s33; rw [x34] at s34
        have k1 := (b5.ext b4 i2).load (P := prog) (t := 2) ag2 0 (v := .int .i64 y.1) rfl
        rw [J80_7_eq]
        simp +contextual only [s8, i4, fa41_0, k1, stepK_ok, onOpK_val, bin_lss]
        cases hc : decide (y.1 < need (pre.length : Int) y.2 ls) with
        | true =>
          simp only [condK_true, stepK_ok, onOpK_val]
          exact ⟨M3, rfl, b3.trans i2, i3⟩
        | false =>
          simp only [condK_false, Bool.not_false, Bool.true_and]
          rw [J80_5_eq]
          simp only [fput_some, Nat.reduceEqDiff, if_false, if_true, s34, stepK_ok, onOpK_val, bin_add, hw]
          have hP3 : Hrs M3 v (pre ++ y :: r) := hP2.ext b4 i2
          refine Exists.imp (fun M4 h => ⟨h.1.trans ?_, (b3.trans i2).trans h.2.1, h.2.2⟩) (ih (pre ++ [y]) _ M3 (by simpa using hP3) (hQ2.ext b4 i2) i3 ?_ ?_ ?_ ?_ (by simpa using hl))
          · simp only [fput_some, Nat.reduceEqDiff, if_false]; exact s1
          · simp only [fput_some, Nat.reduceEqDiff, if_false]; exact s32
          · simp only [fput_some, Nat.reduceEqDiff, if_false]; rw [s33]; simp
          · simp only [fput_some, if_true]
          · simp
      rw [J80_6_eq]
      simp only [fput_some, Nat.reduceEqDiff, if_false, if_true, g1, stepK_ok, onOpK_val, fa41_1, l2, hlen]
      refine inner _ ?_ ?_ ?_ ?_ ?_ ?_ ?_ ?_ ?_ ?_ <;> simp only [fput_some, Nat.reduceEqDiff, if_false, if_true, g1, g32, g33, g34]
end Go.Proofs.Tryz.W
namespace Go.Proofs.Tryz.W
attribute [local congr] stepK_cg onOpK_cg callK_cg condK_cg onStillK_cg

/-- A call under a guard, that may let the memory grow. -/
theorem step_callM {C : Caller} {M M' : Mem} {v : AVal} {k : AVal → Mem → Res} {g : Bool} {f : FuncId} {args : List AVal} (h : C f args M = some (v, M')) : stepK C M (some g) (.call f args) k = k (sel (some g) v) (cond g M' M) := by
  cases g with
  | false => exact Eq.trans rfl rfl
  | true => show callK k (C f args M) = _; rw [h]; exact Eq.trans rfl rfl

def validH (hs : List Hr) (ls : List Lk) (amb : Int) : Bool :=
  !(decide ((hs.length : Int) < 1) || decide ((hs.length : Int) > 16) || !inR amb (-16777216) || !lksOk (hs.length : Int) [] ls) && rowsOk ls 0 hs

theorem con80 (C : Caller) (h2 : K122 C) (h3 : K123 C) {v w : AVal} {hs : List Hr} {ls : List Lk} {amb : Int} {M : Mem} (hP : Hrs M v hs) (hQ : Lks M w ls) (hf : M.Fine) (hls : (ls.length : Int) < 4611686018427387904) :
    ∃ M', J80_0 C (argsF [v, w, .int .i64 amb]) M = some (.bool (validH hs ls amb), M') ∧ Gr M M' ∧ M'.Fine := by
  have hlen := hP.len un104
  simp only [List.length_map] at hlen
  have a0 : argsF [v, w, .int .i64 amb] 0 = v := rfl
  have a1 : argsF [v, w, .int .i64 amb] 1 = w := rfl
  have a2 : argsF [v, w, .int .i64 amb] 2 = .int .i64 amb := rfl
  obtain ⟨M1, d1, d2, d3⟩ := h3 (hs.length : Int) w ls M hf hQ hls
  have c1 : ∀ (g : Bool) (k : AVal → Mem → Res), stepK C M (some g) (.call 122 [.int .i64 amb, .int .i64 (-16777216)]) k = k (sel (some g) (.bool (inR amb (-16777216)))) M := fun g k => step_call (h2 amb (-16777216) M)
  have c2 : ∀ (g : Bool) (k : AVal → Mem → Res), stepK C M (some g) (.call 123 [.int .i64 (hs.length : Int), w]) k = k (sel (some g) (.bool (lksOk (hs.length : Int) [] ls))) (cond g M1 M) := fun g k => step_callM d1
  have tail : hs.length ≤ 16 → ∀ E : FEnv, E 0 = v → E 1 = w → ∃ M', J80_1 C E M1 = some (.bool (rowsOk ls 0 hs), M') ∧ Gr M M' ∧ M'.Fine := by
    intro hsm E x0 x1
    rw [J80_1_eq]
    simp +contextual only [x0, stepK_ok, onOpK_val, hlen]
    refine Exists.imp (fun M4 h => ⟨h.1, d2.trans h.2.1, h.2.2⟩) (w80 C h2 v w ls hls hs [] _ M1 (hP.ext hf d2) (hQ.ext hf d2) d3 ?_ ?_ ?_ ?_ (by simp; omega))
    · simp only [fput_some, Nat.reduceEqDiff, if_false]; exact x1
    · simp only [fput_some, Nat.reduceEqDiff, if_false, if_true]
    · simp only [fput_some, Nat.reduceEqDiff, if_false, if_true]; rfl
    · simp only [fput_some, if_true]; rfl
  rw [J80_0_eq]
  simp +contextual only [a0, a1, a2, stepK_ok, onOpK_val, onOpK_call, callK_some, hlen, c1, c2, un_not, ofOpt_some, bin_lss, bin_gtr, sel_t, sel_f, stepK_no, wantF, wantT, wantS, wantFc, wantTc, step_or, step_and, stepK_val, pick_b, sel_or, sel_and]
  unfold validH
  cases hG : (decide ((hs.length : Int) < 1) || decide ((hs.length : Int) > 16) || !inR amb (-16777216)) with
  | true =>
    simp only [Bool.true_or, condK_true, Bool.not_true, Bool.false_and, cond_false]
    exact ⟨M, rfl, Gr.refl M, hf⟩
  | false =>
    simp only [Bool.false_or, Bool.not_false, cond_true]
    cases hB : lksOk (hs.length : Int) [] ls with
    | false =>
      simp only [Bool.not_false, condK_true, Bool.not_true, Bool.false_and]
      exact ⟨M1, rfl, d2, d3⟩
    | true =>
      simp only [Bool.not_true, condK_false, Bool.not_false, Bool.true_and]
      have hsm : hs.length ≤ 16 := by
        simp only [Bool.or_eq_false_iff, decide_eq_false_iff_not] at hG; omega
      refine tail hsm _ ?_ ?_ <;> simp only [fput_some, Nat.reduceEqDiff, if_false, a0, a1]
def K80 (C : Caller) : Prop := ∀ (v w : AVal) (hs : List Hr) (ls : List Lk) (amb : Int) (M : Mem), M.Fine → Hrs M v hs → Lks M w ls → (ls.length : Int) < 4611686018427387904 → ∃ M', C 80 [v, w, .int .i64 amb] M = some (.bool (validH hs ls amb), M') ∧ Gr M M' ∧ M'.Fine
theorem k80 {L : Lib} (h : L 80 = none) (h2 : K122 (callW prog L)) (h3 : K123 (callW prog L)) : K80 (callW prog L) := fun v w hs ls amb M hf hP hQ hl => by rw [run80 h]; exact con80 _ h2 h3 hP hQ hf hl
end Go.Proofs.Tryz.W
namespace Go.Proofs.Tryz.W
attribute [local congr] stepK_cg onOpK_cg callK_cg condK_cg onStillK_cg

theorem fits_of {e : TypeId} {b n m : Nat} (hb : Go.VE.bytes prog e = b) (h0 : 0 < b) (hm : (2 * m + 2000) * b ≤ 2 ^ 47) (hn : n ≤ m) : fits prog e n = true := by
  unfold fits
  rw [hb]
  have h1 : Nat.blt 0 b = true := by unfold Nat.blt; exact Nat.ble_eq_true_of_le h0
  have h2 : Nat.ble ((2 * n + 2000) * b) (2 ^ 47) = true := Nat.ble_eq_true_of_le (Nat.le_trans (Nat.mul_le_mul_right _ (by omega)) hm)
  rw [h1, h2]; rfl
theorem by41 : Go.VE.bytes prog 41 = 16 := by kernel_rfl
theorem by210 : Go.VE.bytes prog 210 = 24 := by kernel_rfl
theorem zc41 : zeroCells prog 41 = some (2, (zero prog 41).cells) := by kernel_rfl
theorem zc210 : zeroCells prog 210 = some (3, (zero prog 210).cells) := by kernel_rfl

theorem sl_nil {M M' : Mem} {v : AVal} {sz : Nat} {rows : List (List AVal)} {t e : TypeId} (ht : prog.underlying t = some (.slice e)) (h : Sl M v sz rows) :
    (evBin prog M' .eql t v .nilSlice = .val (.bool true) M' ∧ rows = []) ∨ evBin prog M' .eql t v .nilSlice = .val (.bool false) M' := by
  rcases h with ⟨rfl, rfl | rfl⟩ | ⟨a, cap, ex, rfl, _⟩
  · refine .inl ⟨?_, rfl⟩
    show OpR.ofOpt M' ((eqVal prog t .nilSlice .nilSlice).map .bool) = _
    unfold eqVal; rw [ht]; rfl
  · right
    show OpR.ofOpt M' ((eqVal prog t .emptySl .nilSlice).map .bool) = _
    unfold eqVal; rw [ht]; rfl
  · right
    show OpR.ofOpt M' ((eqVal prog t (.slice a sz rows.length cap ex) .nilSlice).map .bool) = _
    unfold eqVal; rw [ht]; rfl

theorem con81 (C : Caller) {v : AVal} {l : List Hr} {M : Mem} (hP : Hrs M v l) (hf : M.Fine) (hl : l.length ≤ 1000000) :
    ∃ w M', J81_0 C (argsF [v]) M = some (w, M') ∧ Hrs M' w l ∧ Gr M M' ∧ M'.Fine := by
  have a0 : argsF [v] 0 = v := rfl
  rw [J81_0_eq]
  rcases sl_nil (M' := M) un104 hP with ⟨h, hn⟩ | h
  · simp +contextual only [a0, stepK_ok, onOpK_val, h, condK_true]
    exact ⟨.nilSlice, M, rfl, .inl ⟨hn, .inl rfl⟩, Gr.refl M, hf⟩
  · simp +contextual only [a0, stepK_ok, onOpK_val, h, condK_false]
    obtain ⟨M1, M2, w, b1, b2, b3, b4, b5, _⟩ := Sl.clone (P := prog) hP hf un104 zc41 (by omega) (fits_of by41 (by omega) (m := 1000000) (by omega) (by simpa using hl))
    rw [J81_1_eq]
    simp +contextual only [fput_some, Nat.reduceEqDiff, if_false, a0, stepK_ok, onOpK_val, b1, b2]
    exact ⟨w, M2, rfl, b3, b4, b5⟩

theorem con82 (C : Caller) {v : AVal} {l : List Lk} {M : Mem} (hP : Lks M v l) (hf : M.Fine) (hl : l.length ≤ 1000000) :
    ∃ w M', J82_0 C (argsF [v]) M = some (w, M') ∧ Lks M' w l ∧ Gr M M' ∧ M'.Fine := by
  have a0 : argsF [v] 0 = v := rfl
  rw [J82_0_eq]
  rcases sl_nil (M' := M) un23 hP with ⟨h, hn⟩ | h
  · simp +contextual only [a0, stepK_ok, onOpK_val, h, condK_true]
    exact ⟨.nilSlice, M, rfl, .inl ⟨hn, .inl rfl⟩, Gr.refl M, hf⟩
  · simp +contextual only [a0, stepK_ok, onOpK_val, h, condK_false]
    obtain ⟨M1, M2, w, b1, b2, b3, b4, b5, _⟩ := Sl.clone (P := prog) hP hf un23 zc210 (by omega) (fits_of by210 (by omega) (m := 1000000) (by omega) (by simpa using hl))
    rw [J82_1_eq]
    simp +contextual only [fput_some, Nat.reduceEqDiff, if_false, a0, stepK_ok, onOpK_val, b1, b2]
    exact ⟨w, M2, rfl, b3, b4, b5⟩
end Go.Proofs.Tryz.W
