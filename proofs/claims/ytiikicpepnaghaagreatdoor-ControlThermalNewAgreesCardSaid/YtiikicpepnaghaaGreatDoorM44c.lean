/-
  Part of a proof over this seat: see the last text.
-/
import Derived.Test.YtiikicpepnaghaaGreatDoorM44b
import Derived.Test.YtiikicpepnaghaaGreatDoorVeObj
set_option linter.unusedSimpArgs false
set_option linter.unusedVariables false
open Go Go.VE
namespace Go.Proofs.Tryz.W
attribute [local congr] stepK_cg onOpK_cg callK_cg condK_cg onStillK_cg

def validR (hs : List Hr) (ls : List Lk) (amb : Int) : Bool :=
  !(decide ((hs.length : Int) < 1) || decide ((hs.length : Int) > 16) || decide (amb < -16777216) || decide (amb > 16777216)) && (!hs.any badR && vr2 hs.length [] (rooms hs) ls)

theorem con85 (C : Caller) {v w : AVal} {hs : List Hr} {ls : List Lk} {amb : Int} {M : Mem} (hP : Hrs M v hs) (hQ : Lks M w ls) (hf : M.Fine) (hls : ls.length ≤ 1000000) :
    ∃ M', J85_0 C (argsF [v, w, .int .i64 amb]) M = some (.bool (validR hs ls amb), M') ∧ Gr M M' ∧ M'.Fine := by
  have hlen := hP.len un104
  simp only [List.length_map] at hlen
  have a0 : argsF [v, w, .int .i64 amb] 0 = v := rfl
  have a1 : argsF [v, w, .int .i64 amb] 1 = w := rfl
  have a2 : argsF [v, w, .int .i64 amb] 2 = .int .i64 amb := rfl
  rw [J85_0_eq]
  simp +contextual only [a0, a1, a2, stepK_ok, onOpK_val, hlen, bin_lss, bin_gtr, sel_t, sel_f, stepK_no, wantF, wantT, wantS, wantFc, wantTc, step_or, step_and, stepK_val, pick_b, sel_or, sel_and]
  unfold validR
  cases hG : (decide ((hs.length : Int) < 1) || decide ((hs.length : Int) > 16) || decide (amb < -16777216) || decide (amb > 16777216)) with
  | true =>
    simp only [condK_true, Bool.not_true, Bool.false_and]
    exact ⟨M, rfl, Gr.refl M, hf⟩
  | false =>
    simp only [condK_false, Bool.not_false, Bool.true_and]
    have hn : hs.length ≤ 1000 := by simp only [Bool.or_eq_false_iff, decide_eq_false_iff_not] at hG; omega
    obtain ⟨rv, M1, m1, m2, m3, m4, m5⟩ := Own.make (M := M) hf hn
    rw [J85_1_eq]
    simp +contextual only [fput_some, Nat.reduceEqDiff, if_false, if_true, a0, a1, stepK_ok, onOpK_val, hlen, m1]
    have tail : ∀ E : FEnv, E 0 = v → E 1 = w → E 7 = rv → E 8 = .int .i64 ((0 : Nat) : Int) → ∃ M', W85_3 C E M1 = some (.bool (!hs.any badR && vr2 hs.length [] (rooms hs) ls), M') ∧ Gr M M' ∧ M'.Fine := by
      intro E x0 x1 x7 x8
      rcases w85 C hf (v := v) (rv := rv) M.next (Nat.le_refl _) hs [] E M1 hP m4 m3 (by simpa [rooms] using m2) x0 x7 x8 hn with ⟨h1, M2, h2, h3, h4⟩ | ⟨h1, e', M2, h2, h3, h4, h5, y0, y1, y7⟩
      · rw [h2, h1]; exact ⟨M2, rfl, h3, h4⟩
      · rw [h2, h1, J85_2_eq]
        rw [x1] at y1
        simp only [stepK_ok, onOpK_val, Bool.not_false, Bool.true_and]
        refine w85b C hf M.next (Nat.le_refl _) rfl hP ls [] _ M2 (rooms hs) (by simp [rooms]) hQ h4 h3 h5 ?_ ?_ ?_ ?_ hls <;> simp only [fput_some, Nat.reduceEqDiff, if_false, if_true, y0, y1, y7] <;> rfl
    refine tail _ ?_ ?_ ?_ ?_ <;> simp only [fput_some, Nat.reduceEqDiff, if_false, if_true, a0, a1] <;> rfl

theorem k85 {L : Lib} (h : L 85 = none) : K85 (callW prog L) validR := fun v w hs ls amb M hf hP hQ hl => by rw [run85 h]; exact con85 _ hP hQ hf hl

/-! validR is validH -/

def tot (i : Int) : List Lk → Int
  | [] => 0
  | y :: r => (if at_ y i = true then y.2.2 else 0) + tot i r
/-- What both ask of links by themselves: c from 1 to the most, in range, not alike. -/
def lksIn (n : Nat) : List Lk → List Lk → Bool
  | _, [] => true
  | pre, y :: r => !(out0 n y || (y.1 == y.2.1) || decide (y.2.2 < 1)) && (!pre.any (conn y) && lksIn n (pre ++ [y]) r)

theorem conn_symm (a b : Lk) : conn a b = conn b a := by
  unfold conn
  rw [Bool.eq_iff_iff]; simp only [Bool.or_eq_true, Bool.and_eq_true, beq_iff_eq]
  constructor <;> rintro (⟨h1, h2⟩ | ⟨h1, h2⟩) <;> simp [h1, h2]

theorem tot_nonneg {n : Nat} (i : Int) : ∀ (ls pre : List Lk), lksIn n pre ls = true → 0 ≤ tot i ls := by
  intro ls
  induction ls with
  | nil => intro pre _; exact Int.le_refl _
  | cons y r ih =>
    intro pre h
    simp only [lksIn, Bool.and_eq_true, Bool.not_eq_true', Bool.or_eq_false_iff, decide_eq_false_iff_not] at h
    have := ih _ h.2.2
    unfold tot
    split <;> omega

theorem vr2_iff {n : Nat} : ∀ (ls pre : List Lk) (rm : List Int), rm.length = n → (∀ x ∈ rm, 0 ≤ x ∧ x ≤ 16777216) →
    (vr2 n pre rm ls = true ↔ lksIn n pre ls = true ∧ ∀ i, i < n → tot (i : Int) ls ≤ rm.getD i 0) := by
  intro ls
  induction ls with
  | nil =>
    intro pre rm hr hx
    simp only [vr2, lksIn, tot, true_and, true_iff]
    intro i hi
    have : rm.getD i 0 ∈ rm := by rw [List.getD_eq_getElem?_getD, List.getElem?_eq_getElem (by omega)]; exact List.getElem_mem _
    exact (hx _ this).1
  | cons y r ih =>
    intro pre rm hr hx
    obtain ⟨a, b, c⟩ := y
    have hany : pre.any (fun x => conn x (a, b, c)) = pre.any (conn (a, b, c)) := by congr 1; funext x; exact conn_symm _ _
    simp only [vr2, lksIn, badV, Bool.and_eq_true, Bool.not_eq_true', hany]
    rw [Bool.or_eq_false_iff, Bool.or_eq_false_iff]
    by_cases hg : (out0 n (a, b, c) || (a == b) || decide (c < 1)) = false
    · simp only [hg, true_and]
      have hg' := hg
      simp only [out0, Bool.or_eq_false_iff, decide_eq_false_iff_not, beq_eq_false_iff_ne] at hg'
      obtain ⟨⟨⟨⟨⟨ha0, han⟩, hb0⟩, hbn⟩, hab⟩, hc⟩ := hg'
      obtain ⟨na, rfl⟩ := Int.eq_ofNat_of_zero_le (show 0 ≤ a by omega)
      obtain ⟨nb, rfl⟩ := Int.eq_ofNat_of_zero_le (show 0 ≤ b by omega)
      have hab' : na ≠ nb := fun h => hab (by rw [h])
      have hna : na < rm.length := by omega
      have hnb : nb < rm.length := by omega
      have ma : rm.getD na 0 ∈ rm := by rw [List.getD_eq_getElem?_getD, List.getElem?_eq_getElem hna]; exact List.getElem_mem _
      have mb : rm.getD nb 0 ∈ rm := by rw [List.getD_eq_getElem?_getD, List.getElem?_eq_getElem hnb]; exact List.getElem_mem _
      have xa := hx _ ma
      have xb := hx _ mb
      simp only [decide_eq_false_iff_not, Int.toNat_natCast]
      by_cases hfit : c ≤ rm.getD na 0 ∧ c ≤ rm.getD nb 0
      · have e1 : less1 rm (na : Int) c = rm.set na (rm.getD na 0 - c) := by
          unfold less1; rw [Int.toNat_natCast, wrap_i64 (by omega) (by omega)]
        have e2 : (rm.set na (rm.getD na 0 - c)).getD nb 0 = rm.getD nb 0 := by
          rw [List.getD_eq_getElem?_getD, List.getElem?_set_ne hab', ← List.getD_eq_getElem?_getD]
        have e3 : less1 (less1 rm (na : Int) c) (nb : Int) c = (rm.set na (rm.getD na 0 - c)).set nb (rm.getD nb 0 - c) := by
          rw [e1]; unfold less1; rw [Int.toNat_natCast, e2, wrap_i64 (by omega) (by omega)]
        have e4 : ∀ i, i < n → ((rm.set na (rm.getD na 0 - c)).set nb (rm.getD nb 0 - c)).getD i 0 = rm.getD i 0 - (if at_ ((na : Int), (nb : Int), c) (i : Int) = true then c else 0) := by
          intro i hi
          simp only [at_, Bool.or_eq_true, beq_iff_eq]
          rw [List.getD_eq_getElem?_getD, List.getElem?_set]
          by_cases hib : nb = i
          · subst hib
            simp [hnb]
          · rw [if_neg hib, List.getElem?_set]
            by_cases hia : na = i
            · subst hia; simp [hna]
            · rw [if_neg hia, if_neg (by omega), ← List.getD_eq_getElem?_getD]; omega
        rw [e3, ih _ _ (by rw [List.length_set, List.length_set]; exact hr) ?_]
        · constructor
          · rintro ⟨_, h2, h3, h4⟩
            refine ⟨⟨h2, h3⟩, fun i hi => ?_⟩
            have := h4 i hi
            rw [e4 i hi] at this
            unfold tot; dsimp only; omega
          · rintro ⟨⟨h2, h3⟩, h4⟩
            refine ⟨⟨by omega, by omega⟩, h2, h3, fun i hi => ?_⟩
            have := h4 i hi
            unfold tot at this; dsimp only at this
            rw [e4 i hi]; omega
        · intro x hxm
          rcases List.mem_or_eq_of_mem_set hxm with h | h
          · rcases List.mem_or_eq_of_mem_set h with h | h
            · exact hx x h
            · omega
          · omega
      · constructor
        · rintro ⟨h, _⟩; omega
        · rintro ⟨⟨h2, h3⟩, h4⟩
          exfalso; apply hfit
          have tn : ∀ i, 0 ≤ tot i r := fun i => tot_nonneg i r _ h3
          have ha := h4 na (by omega)
          have hb := h4 nb (by omega)
          unfold tot at ha hb
          have ta := tn (na : Int)
          have tb := tn (nb : Int)
          simp only [at_, beq_self_eq_true, Bool.true_or, Bool.or_true, if_true] at ha hb
          omega
    · have hg2 : (out0 n (a, b, c) || (a == b) || decide (c < 1)) = true := by simpa only [Bool.not_eq_false] using hg
      constructor
      · rintro ⟨⟨⟨h, _⟩, _⟩, _⟩; rw [hg2] at h; cases h
      · rintro ⟨⟨h, _⟩, _⟩; rw [hg2] at h; cases h
theorem need_tot {n : Nat} (i : Int) : ∀ (ls pre : List Lk) (acc : Int), lksIn n pre ls = true → (∀ y ∈ ls, y.2.2 ≤ 16777216) → 0 ≤ acc → acc + 16777216 * (ls.length : Int) ≤ 4611686018427387904 → need i acc ls = acc + tot i ls := by
  intro ls
  induction ls with
  | nil => intro pre acc _ _ _ _; simp [need, tot]
  | cons y r ih =>
    intro pre acc h hm h0 hb
    simp only [lksIn, Bool.and_eq_true, Bool.not_eq_true', Bool.or_eq_false_iff, decide_eq_false_iff_not] at h
    have hy := hm y (List.mem_cons_self ..)
    have hc := h.1.2
    simp only [List.length_cons] at hb
    unfold need tot
    by_cases hat : at_ y i = true
    · rw [if_pos hat, if_pos hat, wrap_i64 (by omega) (by omega), ih _ _ h.2.2 (fun x hx => hm x (List.mem_cons_of_mem _ hx)) (by omega) (by push_cast at hb; omega)]; omega
    · rw [if_neg hat, if_neg hat, ih _ _ h.2.2 (fun x hx => hm x (List.mem_cons_of_mem _ hx)) (by omega) (by push_cast at hb; omega)]; omega

theorem lksOk_iff {n : Nat} : ∀ (ls pre : List Lk), (lksOk (n : Int) pre ls = true ↔ lksIn n pre ls = true ∧ ∀ y ∈ ls, y.2.2 ≤ 16777216) := by
  intro ls
  induction ls with
  | nil => intro pre; simp [lksOk, lksIn]
  | cons y r ih =>
    intro pre
    simp only [lksOk, lksIn, Bool.and_eq_true, ih, badL, out0, inR, Bool.not_eq_true', Bool.or_eq_false_iff, decide_eq_false_iff_not, Bool.not_eq_false', decide_eq_true_eq, List.mem_cons, forall_eq_or_imp]
    constructor
    · rintro ⟨⟨⟨⟨⟨⟨h1, h2⟩, h3⟩, h4⟩, h5⟩, h6, h7⟩, h8, h9, h10⟩; exact ⟨⟨⟨⟨⟨⟨⟨h1, h2⟩, h3⟩, h4⟩, h5⟩, by omega⟩, h8, h9⟩, h7, h10⟩
    · rintro ⟨⟨⟨⟨⟨⟨⟨h1, h2⟩, h3⟩, h4⟩, h5⟩, h6⟩, h8, h9⟩, h7, h10⟩; exact ⟨⟨⟨⟨⟨⟨h1, h2⟩, h3⟩, h4⟩, h5⟩, by omega, h7⟩, h8, h9, h10⟩

theorem rowsOk_iff (ls : List Lk) : ∀ (hs : List Hr) (k : Nat), (rowsOk ls k hs = true ↔ ∀ i y, hs[i]? = some y → badH y = false ∧ need ((k + i : Nat) : Int) y.2 ls ≤ y.1) := by
  intro hs
  induction hs with
  | nil => intro k; simp [rowsOk]
  | cons y r ih =>
    intro k
    simp only [rowsOk, Bool.and_eq_true, Bool.not_eq_true', decide_eq_false_iff_not, ih]
    constructor
    · rintro ⟨h1, h2, h3⟩ i x hx
      cases i with
      | zero => cases hx; exact ⟨h1, by simpa using h2⟩
      | succ i => have := h3 i x (by simpa using hx); rwa [show k + 1 + i = k + (i + 1) by omega] at this
    · intro h
      have h0 := h 0 y rfl
      refine ⟨h0.1, by simpa using h0.2, fun i x hx => ?_⟩
      have := h (i + 1) x (by simpa using hx)
      rwa [show k + (i + 1) = k + 1 + i by omega] at this

theorem tot_mem {n : Nat} : ∀ (ls pre : List Lk), lksIn n pre ls = true → ∀ y ∈ ls, ∃ i : Nat, i < n ∧ y.2.2 ≤ tot (i : Int) ls := by
  intro ls
  induction ls with
  | nil => intro pre _ y hy; cases hy
  | cons x r ih =>
    intro pre h y hy
    have h' := h
    simp only [lksIn, Bool.and_eq_true, Bool.not_eq_true', out0, Bool.or_eq_false_iff, decide_eq_false_iff_not] at h
    rcases List.mem_cons.mp hy with rfl | hy
    · obtain ⟨na, hna⟩ := Int.eq_ofNat_of_zero_le (show 0 ≤ y.1 by omega)
      refine ⟨na, by omega, ?_⟩
      have := tot_nonneg (na : Int) r _ h.2.2
      unfold tot
      rw [if_pos (by simp [at_, hna])]; omega
    · obtain ⟨i, hi, hle⟩ := ih _ h.2.2 y hy
      refine ⟨i, hi, ?_⟩
      unfold tot
      split <;> omega

theorem valid_eq (hs : List Hr) (ls : List Lk) (amb : Int) (hl : ls.length ≤ 1000000) : validR hs ls amb = validH hs ls amb := by
  rw [Bool.eq_iff_iff]
  unfold validR validH
  simp only [Bool.and_eq_true, Bool.not_eq_true', Bool.or_eq_false_iff, decide_eq_false_iff_not, inR, Bool.not_eq_false', Bool.and_eq_true, decide_eq_true_eq, lksOk_iff, rowsOk_iff]
  have hrm : (rooms hs).length = hs.length := by simp [rooms]
  by_cases hA : ¬((hs.length : Int) < 1) ∧ ¬((hs.length : Int) > 16) ∧ amb ≥ -16777216 ∧ amb ≤ 16777216
  · by_cases hB : hs.any badR = false
    · have hB' : ∀ y ∈ hs, 1 ≤ y.2 ∧ y.1 ≤ 16777216 ∧ y.2 ≤ y.1 := by
        intro y hy
        have := List.any_eq_false.mp hB y hy
        simp only [badR, Bool.or_eq_true, decide_eq_true_eq, not_or] at this
        omega
      have hroom : ∀ i y, hs[i]? = some y → (rooms hs).getD i 0 = y.1 - y.2 := by
        intro i y hy
        have hm := hB' y (List.mem_of_getElem? hy)
        rw [List.getD_eq_getElem?_getD, rooms, List.getElem?_map, hy]
        show IntKind.i64.wrap (y.1 - y.2) = _
        exact wrap_i64 (by omega) (by omega)
      have hr : ∀ x ∈ rooms hs, 0 ≤ x ∧ x ≤ 16777216 := by
        intro x hx
        obtain ⟨y, hy, rfl⟩ := List.mem_map.mp hx
        have hm := hB' y hy
        rw [wrap_i64 (by omega) (by omega)]; omega
      rw [vr2_iff ls [] (rooms hs) hrm hr]
      constructor
      · rintro ⟨_, _, h1, h2⟩
        refine ⟨⟨⟨⟨hA.1, hA.2.1⟩, hA.2.2⟩, h1, fun y hy => ?_⟩, fun i y hy => ?_⟩
        · obtain ⟨i, hi, hle⟩ := tot_mem ls [] h1 y hy
          have := h2 i hi
          have hm : (rooms hs).getD i 0 ∈ rooms hs := by rw [List.getD_eq_getElem?_getD, List.getElem?_eq_getElem (by omega)]; exact List.getElem_mem _
          have := hr _ hm
          omega
        · have hm := hB' y (List.mem_of_getElem? hy)
          have hi : i < hs.length := (List.getElem?_eq_some_iff.mp hy).1
          have hmax : ∀ x ∈ ls, x.2.2 ≤ 16777216 := by
            intro x hx
            obtain ⟨j, hj, hle⟩ := tot_mem ls [] h1 x hx
            have := h2 j hj
            have hm : (rooms hs).getD j 0 ∈ rooms hs := by rw [List.getD_eq_getElem?_getD, List.getElem?_eq_getElem (by omega)]; exact List.getElem_mem _
            have := hr _ hm
            omega
          refine ⟨by simp [badH, inR]; omega, ?_⟩
          rw [need_tot _ ls [] y.2 h1 hmax (by omega) (by omega)]
          have := h2 i hi
          rw [hroom i y hy] at this
          simp only [Nat.zero_add]; omega
      · rintro ⟨⟨_, h1, hmax⟩, h2⟩
        refine ⟨⟨⟨⟨hA.1, hA.2.1⟩, by omega⟩, by omega⟩, hB, h1, fun i hi => ?_⟩
        have hy : hs[i]? = some hs[i] := List.getElem?_eq_getElem hi
        have hm := hB' _ (List.getElem_mem hi)
        have := (h2 i _ hy).2
        rw [need_tot _ ls [] _ h1 hmax (by omega) (by omega)] at this
        rw [hroom i _ hy]
        simp only [Nat.zero_add] at this; omega
    · constructor
      · rintro ⟨_, h, _⟩; exact absurd h hB
      · rintro ⟨⟨_, h1, hmax⟩, h2⟩
        exfalso; apply hB
        rw [List.any_eq_false]
        intro y hy
        obtain ⟨i, hi⟩ := List.getElem?_of_mem hy
        have := h2 i y hi
        have hb := this.1
        simp only [badH, inR, Bool.or_eq_false_iff, Bool.not_eq_false', Bool.and_eq_true, decide_eq_true_eq] at hb
        rw [need_tot _ ls [] _ h1 hmax (by omega) (by omega)] at this
        have := tot_nonneg ((0 + i : Nat) : Int) ls [] h1
        simp only [badR, Bool.or_eq_true, decide_eq_true_eq, not_or]; omega
  · constructor
    · rintro ⟨⟨⟨⟨h1, h2⟩, h3⟩, h4⟩, _⟩; exact absurd ⟨h1, h2, by omega, by omega⟩ hA
    · rintro ⟨⟨⟨⟨h1, h2⟩, h3⟩, _⟩, _⟩; exact absurd ⟨h1, h2, h3⟩ hA
end Go.Proofs.Tryz.W
namespace Go.Proofs.Tryz.W
attribute [local congr] stepK_cg onOpK_cg callK_cg condK_cg onStillK_cg

theorem by61 : Go.VE.bytes prog 61 = 24 := by kernel_rfl
theorem by205 : Go.VE.bytes prog 205 = 24 := by kernel_rfl
theorem zc61 : zeroCells prog 61 = some (3, (zero prog 61).cells) := by kernel_rfl
theorem zc205 : zeroCells prog 205 = some (3, (zero prog 205).cells) := by kernel_rfl

def K78 (C : Caller) : Prop := ∀ (v : AVal) (l : List Pt) (M : Mem), M.Fine → Pts M v l → l.length ≤ 1000000 → ∃ w M', C 78 [v] M = some (w, M') ∧ Pts M' w l ∧ Gr M M' ∧ M'.Fine ∧ Bk M.next M'.next w
def K79 (C : Caller) : Prop := ∀ (v : AVal) (l : List Tp) (M : Mem), M.Fine → Tps M v l → l.length ≤ 1000000 → ∃ w M', C 79 [v] M = some (w, M') ∧ Tps M' w l ∧ Gr M M' ∧ M'.Fine ∧ Bk M.next M'.next w
theorem con78 (C : Caller) {v : AVal} {l : List Pt} {M : Mem} (hP : Pts M v l) (hf : M.Fine) (hl : l.length ≤ 1000000) :
    ∃ w M', J78_0 C (argsF [v]) M = some (w, M') ∧ Pts M' w l ∧ Gr M M' ∧ M'.Fine ∧ Bk M.next M'.next w := by
  have a0 : argsF [v] 0 = v := rfl
  rw [J78_0_eq]
  rcases sl_nil (M' := M) un42 hP with ⟨h, hn⟩ | h
  · simp +contextual only [a0, stepK_ok, onOpK_val, h, condK_true]
    exact ⟨.nilSlice, M, rfl, .inl ⟨hn, .inl rfl⟩, Gr.refl M, hf, Bk.nil _ _⟩
  · simp +contextual only [a0, stepK_ok, onOpK_val, h, condK_false]
    obtain ⟨M1, M2, w, b1, b2, b3, b4, b5, b6⟩ := Sl.clone (P := prog) hP hf un42 zc61 (by omega) (fits_of by61 (by omega) (m := 1000000) (by omega) (by simpa using hl))
    rw [J78_1_eq]
    simp +contextual only [fput_some, Nat.reduceEqDiff, if_false, a0, stepK_ok, onOpK_val, b1, b2]
    exact ⟨w, M2, rfl, b3, b4, b5, b6⟩
theorem con79 (C : Caller) {v : AVal} {l : List Tp} {M : Mem} (hP : Tps M v l) (hf : M.Fine) (hl : l.length ≤ 1000000) :
    ∃ w M', J79_0 C (argsF [v]) M = some (w, M') ∧ Tps M' w l ∧ Gr M M' ∧ M'.Fine ∧ Bk M.next M'.next w := by
  have a0 : argsF [v] 0 = v := rfl
  rw [J79_0_eq]
  rcases sl_nil (M' := M) un43 hP with ⟨h, hn⟩ | h
  · simp +contextual only [a0, stepK_ok, onOpK_val, h, condK_true]
    exact ⟨.nilSlice, M, rfl, .inl ⟨hn, .inl rfl⟩, Gr.refl M, hf, Bk.nil _ _⟩
  · simp +contextual only [a0, stepK_ok, onOpK_val, h, condK_false]
    obtain ⟨M1, M2, w, b1, b2, b3, b4, b5, b6⟩ := Sl.clone (P := prog) hP hf un43 zc205 (by omega) (fits_of by205 (by omega) (m := 1000000) (by omega) (by simpa using hl))
    rw [J79_1_eq]
    simp +contextual only [fput_some, Nat.reduceEqDiff, if_false, a0, stepK_ok, onOpK_val, b1, b2]
    exact ⟨w, M2, rfl, b3, b4, b5, b6⟩
theorem k78 {L : Lib} (h : L 78 = none) : K78 (callW prog L) := fun v l M hf hP hl => by rw [run78 h]; exact con78 _ hP hf hl
theorem k79 {L : Lib} (h : L 79 = none) : K79 (callW prog L) := fun v l M hf hP hl => by rw [run79 h]; exact con79 _ hP hf hl

theorem bR238 {v : AVal} (hv : Cell1 v) (a b c h : Int) (M : Mem) : evBuildR prog M 238 [(0, v), (1, .agg [.int .i64 a, .int .i64 b, .int .i64 c]), (3, .int .i64 h)] = .val (.agg [v, .int .i64 a, .int .i64 b, .int .i64 c, .int .i64 0, .int .i64 h, .int .i64 0, .int .i64 0]) M := by
  rw [build_eq zr238 pl238]; simp [fillV, listAt, hv.1, hv.2, overlay, evAgg, solid_int, solid_agg, cells_int, cells_agg]
theorem bR232 {v w : AVal} (hv : Cell1 v) (hw : Cell1 w) (h : Int) (M : Mem) : evBuildR prog M 232 [(0, v), (1, w), (2, .int .i64 h)] = .val (.agg [v, w, .int .i64 h, .int .i64 0]) M := by
  rw [build_eq zr232 pl232]; simp [fillV, listAt, hv.1, hv.2, hw.1, hw.2, overlay, evAgg, solid_int, solid_agg, cells_int, cells_agg]

abbrev Gp := Int × Int × Int
def gpRow (g : Gp) : List AVal := [.int .i64 g.1, .int .i64 g.2.1, .int .i64 g.2.2]
def badG (g : Gp) : Bool := decide (g.1 < 1) || decide (g.1 > 100) || decide (g.2.1 < 0) || decide (g.2.1 ≥ g.1) || decide (g.2.2 < 1) || decide (g.2.2 > 1000)
def gOk (l : List Pt) (g : Gp) : Bool := decide (chk l = 0) && !badG g
theorem chk01 (l : List Pt) : chk l = 0 ∨ chk l = 1 := by unfold chk; split; · right; rfl
                                                          · split <;> simp
def K135 (C : Caller) : Prop := ∀ (v : AVal) (l : List Pt) (M : Mem), M.Fine → Pts M v l → ∃ M', C 135 [v] M = some (.int .i64 (chk l), M') ∧ Gr M M' ∧ M'.Fine
theorem k135 {L : Lib} (h : L 135 = none) : K135 (callW prog L) := fun v l M hf hP => by rw [run135 h]; exact check135 _ hP hf
/-- A governor that was just made. -/
def Gov0 (M M' : Mem) (o : Nat) (l : List Pt) (g : Gp) : Prop := ∃ s, M.next ≤ o ∧ M'.get o = some (.cells [s, .int .i64 g.1, .int .i64 g.2.1, .int .i64 g.2.2, .int .i64 0, .int .i64 ((l.length : Int) - 1), .int .i64 0, .int .i64 0] 0 0) ∧ Pts M' s l ∧ Bk M.next o s

theorem con93 (C : Caller) (h135 : K135 C) (h78 : K78 C) {v : AVal} {l : List Pt} {g : Gp} {M : Mem} (hP : Pts M v l) (hf : M.Fine) (hl : l.length ≤ 1000000) :
    (gOk l g = false ∧ ∃ M', J93_0 C (argsF [v, .agg (gpRow g)]) M = some (.tuple [.nilPtr, .int .i64 1], M') ∧ Gr M M' ∧ M'.Fine) ∨
    (gOk l g = true ∧ ∃ M' o, J93_0 C (argsF [v, .agg (gpRow g)]) M = some (.tuple [.ptr ⟨o, 0, 0, 8⟩, .int .i64 0], M') ∧ Gr M M' ∧ M'.Fine ∧ Gov0 M M' o l g) := by
  have a0 : argsF [v, .agg (gpRow g)] 0 = v := rfl
  have a1 : argsF [v, .agg (gpRow g)] 1 = .agg (gpRow g) := rfl
  obtain ⟨M1, b1, b2, b3, b4, b5⟩ := new_agg (M := M) (vs := gpRow g) hf
  have hP1 : Pts M1 v l := hP.ext hf b2
  obtain ⟨M2, c1, c2, c3⟩ := h135 v l M1 b3 hP1
  have e4 := b4.ext b3 c2
  rw [J93_0_eq]
  simp +contextual only [fput_some, Nat.reduceEqDiff, if_false, if_true, a0, a1, b1, stepK_ok, onOpK_val, onOpK_call, callK_some, c1, bin_neq]
  rcases chk01 l with hc | hc
  · have hne : ((chk l : Int) != 0) = false := by rw [hc]; rfl
    rw [hne]
    simp only [condK_false]
    have l0 := e4.load (P := prog) (t := 3) ag3 0 (v := .int .i64 g.1) rfl
    have l1 := e4.load (P := prog) (t := 3) ag3 1 (v := .int .i64 g.2.1) rfl
    have l2 := e4.load (P := prog) (t := 3) ag3 2 (v := .int .i64 g.2.2) rfl
    rw [J93_1_eq]
    simp +contextual only [fput_some, Nat.reduceEqDiff, if_false, if_true, stepK_ok, onOpK_val, fa39_0, fa39_1, fa39_2, l0, l1, l2, bin_lss, bin_gtr, bin_geq, sel_t, sel_f, stepK_no, wantF, wantT, wantS, wantFc, wantTc, step_or, step_and, stepK_val, pick_b, sel_or, sel_and]
    have hb : (decide (g.1 < 1) || decide (g.1 > 100) || decide (g.2.1 < 0) || decide (g.2.1 ≥ g.1) || decide (g.2.2 < 1) || decide (g.2.2 > 1000)) = badG g := rfl
    rw [hb]
    cases hg : badG g with
    | true =>
      left
      simp only [condK_true, stepK_ok, onOpK_val]
      exact ⟨by simp [gOk, hg], M2, rfl, b2.trans c2, c3⟩
    | false =>
      right
      simp only [condK_false]
      have hP2 : Pts M2 v l := hP1.ext b3 c2
      have hlen : ∀ N, Go.VE.builtin prog N .len #[42] [v] = .val (.int .i64 (l.length : Int)) N := fun N => by have := hP2.len un42 N; simpa using this
      have lA := e4.loadAgg (P := prog) (t := 39) ag39 sz39
      obtain ⟨s, M3, d1, d2, d3, d4, d5⟩ := h78 v l M2 c3 hP2 hl
      have lA3 := (e4.ext c3 d3).loadAgg (P := prog) (t := 39) ag39 sz39
      have hw : IntKind.i64.wrap ((l.length : Int) - 1) = (l.length : Int) - 1 := wrap_i64 (by omega) (by omega)
      have sv : sameVal (.agg (gpRow g)) (.val (.agg (gpRow g)) M3) = true := by simp [sameVal, AVal.beq, gpRow, all2, AVal.beq0]
      have si : ∀ n : Int, sameVal (.int .i64 n) (.val (.int .i64 n) M3) = true := fun n => by simp [sameVal, AVal.beq, AVal.beq0]
      have bR := bR238 d2.plain g.1 g.2.1 g.2.2 ((l.length : Int) - 1) M3
      obtain ⟨M4, f1, f2, f3, f4, f5⟩ := new_agg (M := M3) (vs := [s, .int .i64 g.1, .int .i64 g.2.1, .int .i64 g.2.2, .int .i64 0, .int .i64 ((l.length : Int) - 1), .int .i64 0, .int .i64 0]) d4
      rw [J93_2_eq]
      simp +contextual only [fput_some, Nat.reduceEqDiff, if_false, if_true, a0, stepK_ok, onOpK_val, onOpK_call, callK_some, lA, hlen, bin_sub, hw, d1, lA3, sv, si, Bool.and_true, onStillK_true]
      rw [show AVal.agg (gpRow g) = .agg [.int .i64 g.1, .int .i64 g.2.1, .int .i64 g.2.2] from rfl, bR]
      simp +contextual only [stepK_ok, onOpK_val, f1]
      refine ⟨by simp [gOk, hc, hg], M4, M3.next, rfl, ((b2.trans c2).trans d3).trans f2, f3, s, ?_, ?_, d2.ext d4 f2, d5.mono (Nat.le_trans b2.next c2.next) (Nat.le_refl _)⟩
      · exact Nat.le_trans (Nat.le_trans b2.next c2.next) d3.next
      · obtain ⟨cs, ep, lo, h1, h2, h3, h4⟩ := f4
        have : M4 = M3.alloc (.cells [s, .int .i64 g.1, .int .i64 g.2.1, .int .i64 g.2.2, .int .i64 0, .int .i64 ((l.length : Int) - 1), .int .i64 0, .int .i64 0] 0 0) := by
          have e := f1; rw [evNew_one rfl] at e; simp only [OpR.val.injEq] at e; exact e.2.symm
        rw [this, Mem.get_alloc, if_pos rfl]
  · have hne : ((chk l : Int) != 0) = true := by rw [hc]; rfl
    rw [hne]
    left
    simp only [condK_true, stepK_ok, onOpK_val, hc]
    exact ⟨by simp [gOk, hc], M2, rfl, b2.trans c2, c3⟩
end Go.Proofs.Tryz.W
namespace Go.Proofs.Tryz.W
attribute [local congr] stepK_cg onOpK_cg callK_cg condK_cg onStillK_cg

def bools (l : List Bool) : List AVal := l.map .bool
theorem zc4 : zeroCells prog 4 = some (1, [AVal.bool false]) := by kernel_rfl
theorem by4 : Go.VE.bytes prog 4 ≤ 8 := by rw [show Go.VE.bytes prog 4 = 1 by kernel_rfl]; omega

def zOk (l : List Tp) (lv : Int) : Bool := !((chkT l != 0) || decide (lv < 0) || decide (lv > 64))
def K136 (C : Caller) : Prop := ∀ (v : AVal) (l : List Tp) (M : Mem), M.Fine → Tps M v l → ∃ M', C 136 [v] M = some (.int .i64 (chkT l), M') ∧ Gr M M' ∧ M'.Fine
theorem k136 {L : Lib} (h : L 136 = none) : K136 (callW prog L) := fun v l M hf hP => by rw [run136 h]; exact trips136 _ hP hf
/-- A zone that was just made. -/
def Zone0 (M M' : Mem) (o : Nat) (l : List Tp) (lv : Int) : Prop := ∃ s a k, M.next ≤ o ∧ M'.get o = some (.cells [s, a, .int .i64 lv, .int .i64 0] 0 0) ∧ Tps M' s l ∧ Bk M.next o s ∧ OwnC M' a k (bools (List.replicate l.length false)) ∧ M.next ≤ k ∧ k < o ∧ Bk (k + 1) o s

theorem con94 (C : Caller) (h136 : K136 C) (h79 : K79 C) {v : AVal} {l : List Tp} {lv : Int} {M : Mem} (hP : Tps M v l) (hf : M.Fine) (hl : l.length ≤ 100000) :
    (zOk l lv = false ∧ ∃ M', J94_0 C (argsF [v, .int .i64 lv]) M = some (.tuple [.nilPtr, .int .i64 1], M') ∧ Gr M M' ∧ M'.Fine) ∨
    (zOk l lv = true ∧ ∃ M' o, J94_0 C (argsF [v, .int .i64 lv]) M = some (.tuple [.ptr ⟨o, 0, 0, 4⟩, .int .i64 0], M') ∧ Gr M M' ∧ M'.Fine ∧ Zone0 M M' o l lv) := by
  have a0 : argsF [v, .int .i64 lv] 0 = v := rfl
  have a1 : argsF [v, .int .i64 lv] 1 = .int .i64 lv := rfl
  obtain ⟨M2, c1, c2, c3⟩ := h136 v l M hf hP
  rw [J94_0_eq]
  simp +contextual only [fput_some, Nat.reduceEqDiff, if_false, if_true, a0, a1, stepK_ok, onOpK_val, onOpK_call, callK_some, c1, bin_neq, bin_lss, bin_gtr, bin_geq, sel_t, sel_f, stepK_no, wantF, wantT, wantS, wantFc, wantTc, step_or, step_and, stepK_val, pick_b, sel_or, sel_and]
  cases hg : (chkT l != 0 || decide (lv < 0) || decide (lv > 64)) with
  | true =>
    left
    simp only [condK_true, stepK_ok, onOpK_val]
    exact ⟨by simp only [zOk, hg]; rfl, M2, rfl, c2, c3⟩
  | false =>
    right
    simp only [condK_false]
    have hP2 : Tps M2 v l := hP.ext hf c2
    have hlen : ∀ N, Go.VE.builtin prog N .len #[43] [v] = .val (.int .i64 (l.length : Int)) N := fun N => by have := hP2.len un43 N; simpa using this
    obtain ⟨a, M3, m1, m2, m3, m4, m5⟩ := OwnC.make (M := M2) c3 un217 zc4 by4 hl
    have hP3 : Tps M3 v l := hP2.ext c3 m3
    obtain ⟨s, M4, d1, d2, d3, d4, d5⟩ := h79 v l M3 m4 hP3 (by omega)
    have si : ∀ n : Int, sameVal (.int .i64 n) (.val (.int .i64 n) M4) = true := fun n => by simp [sameVal, AVal.beq, AVal.beq0]
    have bR := bR232 d2.plain m2.plain lv M4
    obtain ⟨M5, f1, f2, f3, f4, f5⟩ := new_agg (M := M4) (vs := [s, a, .int .i64 lv, .int .i64 0]) d4
    have e5 : M5 = M4.alloc (.cells [s, a, .int .i64 lv, .int .i64 0] 0 0) := by
      have e := f1; rw [evNew_one rfl] at e; simp only [OpR.val.injEq] at e; exact e.2.symm
    rw [J94_1_eq]
    simp +contextual only [fput_some, Nat.reduceEqDiff, if_false, if_true, a0, a1, stepK_ok, onOpK_val, onOpK_call, callK_some, hlen, m1, d1, si, Bool.and_true, onStillK_true, bR, f1]
    have n1 := c2.next
    have n2 := d3.next
    refine ⟨by simp only [zOk, hg]; rfl, M5, M4.next, rfl, ((c2.trans m3).trans d3).trans f2, f3, s, a, M2.next, by omega, by rw [e5, Mem.get_alloc, if_pos rfl], d2.ext d4 f2, d5.mono (by omega) (Nat.le_refl _), ?_, n1, by omega, d5.mono (by omega) (Nat.le_refl _)⟩
    have hb : bools (List.replicate l.length false) = List.replicate l.length (AVal.bool false) := by simp [bools]
    rw [hb]; exact (m2.ext m4 d3).ext d4 f2
end Go.Proofs.Tryz.W
namespace Go.Proofs.Tryz.W
attribute [local congr] stepK_cg onOpK_cg callK_cg condK_cg onStillK_cg

def K93 (C : Caller) : Prop := ∀ (v : AVal) (l : List Pt) (g : Gp) (M : Mem), M.Fine → Pts M v l → l.length ≤ 1000000 →
    (gOk l g = false ∧ ∃ M', C 93 [v, .agg (gpRow g)] M = some (.tuple [.nilPtr, .int .i64 1], M') ∧ Gr M M' ∧ M'.Fine) ∨
    (gOk l g = true ∧ ∃ M' o, C 93 [v, .agg (gpRow g)] M = some (.tuple [.ptr ⟨o, 0, 0, 8⟩, .int .i64 0], M') ∧ Gr M M' ∧ M'.Fine ∧ Gov0 M M' o l g)
def K94 (C : Caller) : Prop := ∀ (v : AVal) (l : List Tp) (lv : Int) (M : Mem), M.Fine → Tps M v l → l.length ≤ 100000 →
    (zOk l lv = false ∧ ∃ M', C 94 [v, .int .i64 lv] M = some (.tuple [.nilPtr, .int .i64 1], M') ∧ Gr M M' ∧ M'.Fine) ∨
    (zOk l lv = true ∧ ∃ M' o, C 94 [v, .int .i64 lv] M = some (.tuple [.ptr ⟨o, 0, 0, 4⟩, .int .i64 0], M') ∧ Gr M M' ∧ M'.Fine ∧ Zone0 M M' o l lv)
theorem k93 {L : Lib} (h : L 93 = none) (h1 : K135 (callW prog L)) (h2 : K78 (callW prog L)) : K93 (callW prog L) := fun v l g M hf hP hl => by rw [run93 h]; exact con93 _ h1 h2 hP hf hl
theorem k94 {L : Lib} (h : L 94 = none) (h1 : K136 (callW prog L)) (h2 : K79 (callW prog L)) : K94 (callW prog L) := fun v l lv M hf hP hl => by rw [run94 h]; exact con94 _ h1 h2 hP hf hl

/-- A domain's cells. -/
def domRow (ps : AVal) (g : Gp) (ts : AVal) (most load power : Int) (gv zv : AVal) (hi : Int) : List AVal :=
  [ps, .int .i64 g.1, .int .i64 g.2.1, .int .i64 g.2.2, ts, .int .u64 most, .int .i64 load, .int .i64 power, gv, zv, .int .i64 hi]

theorem con52 (C : Caller) (h93 : K93 C) (h94 : K94 C) {o : Nat} {ps ts gv zv : AVal} {l : List Pt} {tl : List Tp} {g : Gp} {most load power hi : Int} {M : Mem} (hf : M.Fine) (hO : M.get o = some (.cells (domRow ps g ts most load power gv zv hi) 0 0)) (hP : Pts M ps l) (hT : Tps M ts tl) (hl : l.length ≤ 1000000) (htl : tl.length ≤ 100000) :
    ((gOk l g && zOk tl 16) = false ∧ ∃ M', J52_0 C (argsF [.ptr ⟨o, 0, 0, 11⟩]) M = some (.int .i64 1, M') ∧ FrS (· = o) M M' ∧ M'.Fine) ∨
    ((gOk l g && zOk tl 16) = true ∧ ∃ M' go zo, J52_0 C (argsF [.ptr ⟨o, 0, 0, 11⟩]) M = some (.int .i64 0, M') ∧ FrS (· = o) M M' ∧ M'.Fine ∧ M'.get o = some (.cells (domRow ps g ts most load power (.ptr ⟨go, 0, 0, 8⟩) (.ptr ⟨zo, 0, 0, 4⟩) ((l.length : Int) - 1)) 0 0) ∧
      ∃ M1, M.next ≤ M1.next ∧ go < M1.next ∧ M1.next ≤ M'.next ∧ Gov0 M M' go l g ∧ Zone0 M1 M' zo tl 16) := by
  have a0 : argsF [.ptr ⟨o, 0, 0, 11⟩] 0 = .ptr ⟨o, 0, 0, 11⟩ := rfl
  have ho := hf o _ hO
  have e0 := ob_el (n := 11) hO rfl
  have l0 := e0.load (P := prog) (t := 42) ag42 0 (v := ps) rfl
  have l1 := e0.loadAggAt (P := prog) (t := 39) (n := 3) ag39 sz39 1 (by show 1 + 3 ≤ 11; omega)
  have hg1 : AVal.agg (((domRow ps g ts most load power gv zv hi).drop 1).take 3) = .agg (gpRow g) := rfl
  rw [hg1] at l1
  rw [J52_0_eq]
  rcases h93 ps l g M hf hP hl with ⟨hok, M1, c1, c2, c3⟩ | ⟨hok, M1, go, c1, c2, c3, c4⟩
  · left
    simp +contextual only [fput_some, Nat.reduceEqDiff, if_false, if_true, a0, stepK_ok, onOpK_val, nck, fa132_0, fa132_1, l0, l1, onOpK_call, c1, callK_some, onStillK_true, evExtract_tuple, List.getElem?_cons_zero, List.getElem?_cons_succ, ofOpt_some, bin_neq, show ((1 : Int) != 0) = true from rfl, condK_true]
    exact ⟨by rw [hok]; rfl, M1, rfl, FrS.of c2, c3⟩
  · simp +contextual only [fput_some, Nat.reduceEqDiff, if_false, if_true, a0, stepK_ok, onOpK_val, nck, fa132_0, fa132_1, l0, l1, onOpK_call, c1, callK_some, onStillK_true, evExtract_tuple, List.getElem?_cons_zero, List.getElem?_cons_succ, ofOpt_some, bin_neq, show ((0 : Int) != 0) = false from rfl, condK_false]
    have hO1 := c2.get hf hO
    have hP1 : Pts M1 ps l := hP.ext hf c2
    have hT1 : Tps M1 ts tl := hT.ext hf c2
    have l4 := (ob_el (n := 11) hO1 rfl).load (P := prog) (t := 43) ag43 4 (v := ts) rfl
    have fin : ∀ (M2 : Mem) (zv' : AVal), Gr M1 M2 → M2.Fine → zv'.solid = true → zv'.cells = [zv'] → ∃ M', M' = M2.set o (.cells (domRow ps g ts most load power (.ptr ⟨go, 0, 0, 8⟩) zv' ((l.length : Int) - 1)) 0 0) ∧
        (∀ N, evFieldAddr prog N 132 (.ptr ⟨o, 0, 0, 11⟩) 0 = .val (.ptr ⟨o, 0 + 0, 0, 11⟩) N) ∧ evLoad prog M2 42 (.ptr ⟨o, 0 + 0, 0, 11⟩) = .val ps M2 ∧ Go.VE.builtin prog M2 .len #[42] [ps] = .val (.int .i64 (l.length : Int)) M2 ∧
        ∃ Ma Mb, evStore prog M2 129 (.ptr ⟨o, 0 + 8, 0, 11⟩) (.ptr ⟨go, 0, 0, 8⟩) = .val (.tuple []) Ma ∧ evStore prog Ma 130 (.ptr ⟨o, 0 + 9, 0, 11⟩) zv' = .val (.tuple []) Mb ∧ evStore prog Mb 3 (.ptr ⟨o, 0 + 10, 0, 11⟩) (.int .i64 ((l.length : Int) - 1)) = .val (.tuple []) M' ∧ FrS (· = o) M M' ∧ M'.Fine := by
      intro M2 zv' g2 f2 s1 s2
      have hO2 := g2.get c3 hO1
      have hP2 : Pts M2 ps l := hP1.ext c3 g2
      have hlen := hP2.len un42 M2
      simp only [List.length_map] at hlen
      have st1 := ob_store (n := 11) (t := 129) (i := 8) (x := .ptr ⟨go, 0, 0, 8⟩) hO2 rfl sz129 (by omega) rfl rfl
      have hA : (M2.set o (.cells ((domRow ps g ts most load power gv zv hi).set 8 (.ptr ⟨go, 0, 0, 8⟩)) 0 0)).get o = some (.cells ((domRow ps g ts most load power gv zv hi).set 8 (.ptr ⟨go, 0, 0, 8⟩)) 0 0) := by rw [Mem.get_set, if_pos rfl]
      have st2 := ob_store (n := 11) (t := 130) (i := 9) (x := zv') hA rfl sz130 (by omega) s1 s2
      rw [Mem.set_set] at st2
      have hB : (M2.set o (.cells (((domRow ps g ts most load power gv zv hi).set 8 (.ptr ⟨go, 0, 0, 8⟩)).set 9 zv') 0 0)).get o = some (.cells (((domRow ps g ts most load power gv zv hi).set 8 (.ptr ⟨go, 0, 0, 8⟩)).set 9 zv') 0 0) := by rw [Mem.get_set, if_pos rfl]
      have st3 := ob_store (n := 11) (t := 3) (i := 10) (x := .int .i64 ((l.length : Int) - 1)) hB rfl sz3 (by omega) rfl rfl
      rw [Mem.set_set] at st3
      have hfr : FrS (· = o) M (M2.set o (.cells (domRow ps g ts most load power (.ptr ⟨go, 0, 0, 8⟩) zv' ((l.length : Int) - 1)) 0 0)) := FrS.set (S := (· = o)) (id := o) (FrS.of (c2.trans g2)) (.inr rfl) _
      exact ⟨_, rfl, fun N => fa132_0 N _, (ob_el (n := 11) hO2 rfl).load (P := prog) (t := 42) ag42 0 (v := ps) rfl, hlen, _, _, st1, st2, st3, hfr, f2.set (f2 o _ hO2) _⟩
    have hw : IntKind.i64.wrap ((l.length : Int) - 1) = (l.length : Int) - 1 := wrap_i64 (by omega) (by omega)
    rw [J52_1_eq]
    rcases h94 ts tl 16 M1 c3 hT1 htl with ⟨hz, M2, d1, d2, d3⟩ | ⟨hz, M2, zo, d1, d2, d3, d4⟩
    · left
      obtain ⟨M', hM', x0, x1, x2, Ma, Mb, t1, t2, t3, t4, t5⟩ := fin M2 .nilPtr d2 d3 rfl rfl
      simp +contextual only [fput_some, Nat.reduceEqDiff, if_false, if_true, a0, stepK_ok, onOpK_val, nck, fa132_0, fa132_2, fa132_6, fa132_7, fa132_8, l4, onOpK_call, d1, callK_some, evExtract_tuple, List.getElem?_cons_zero, List.getElem?_cons_succ, ofOpt_some, x1, x2, bin_sub, hw, t1, t2, t3]
      exact ⟨by rw [hok, hz]; rfl, M', rfl, t4, t5⟩
    · right
      obtain ⟨M', hM', x0, x1, x2, Ma, Mb, t1, t2, t3, t4, t5⟩ := fin M2 (.ptr ⟨zo, 0, 0, 4⟩) d2 d3 rfl rfl
      simp +contextual only [fput_some, Nat.reduceEqDiff, if_false, if_true, a0, stepK_ok, onOpK_val, nck, fa132_0, fa132_2, fa132_6, fa132_7, fa132_8, l4, onOpK_call, d1, callK_some, evExtract_tuple, List.getElem?_cons_zero, List.getElem?_cons_succ, ofOpt_some, x1, x2, bin_sub, hw, t1, t2, t3]
      refine ⟨by rw [hok, hz]; rfl, M', go, zo, rfl, t4, t5, by rw [hM', Mem.get_set, if_pos rfl], M1, c2.next, ?_, ?_, ?_, ?_⟩
      · obtain ⟨s, g1, g2, _⟩ := c4; exact c3 _ _ g2
      · rw [hM']; exact d2.next
      · obtain ⟨s, g1, g2, g3, g4⟩ := c4
        have hfr : FrS (· = o) M1 M' := by rw [hM']; exact FrS.set (S := (· = o)) (id := o) (FrS.of d2) (.inr rfl) _
        have hlt := c3 _ _ g2
        exact ⟨s, g1, hfr.get c3 g2 (by omega), Sl.frs g3 c3 hfr (Off.of_bk g4 (fun i h1 h2 => by omega)), g4⟩
      · obtain ⟨s, a, k, z1, z2, z3, z4, z5, z6, z7, z8⟩ := d4
        have hfr : FrS (· = o) M2 M' := by rw [hM']; exact FrS.set (S := (· = o)) (id := o) FrS.refl (.inr rfl) _
        have := c2.next
        exact ⟨s, a, k, z1, hfr.get d3 z2 (by omega), Sl.frs z3 d3 hfr (Off.of_bk z4 (fun i h1 h2 => by omega)), z4, z5.frs d3 hfr (by omega), z6, z7, z8⟩
end Go.Proofs.Tryz.W
namespace Go.Proofs.Tryz.W
attribute [local congr] stepK_cg onOpK_cg callK_cg condK_cg onStillK_cg

def susOk (y : Hr) (amb peak : Int) : Bool := validH [y] [] amb && !decide (peak < amb) && !decide (peak > 33554432)
def susV (y : Hr) (amb peak : Int) : Int := IntKind.i64.wrap (y.2 * IntKind.i64.wrap (peak - amb))
def susT (y : Hr) (amb peak : Int) : List AVal := if susOk y amb peak = true then [.int .i64 (susV y amb peak), .int .i64 0] else [.int .i64 0, .int .i64 1]
def K20 (C : Caller) : Prop := ∀ (y : Hr) (amb peak : Int) (M : Mem), M.Fine → ∃ M', C 20 [.agg (hrRow y), .int .i64 amb, .int .i64 peak] M = some (.tuple (susT y amb peak), M') ∧ Gr M M' ∧ M'.Fine
theorem k20 {L : Lib} (h : L 20 = none) (h39 : K39 (callW prog L)) : K20 (callW prog L) := fun y amb peak M hf => by rw [run20 h]; exact con20 _ h39 y amb peak hf

def mostOf (y : Hr) (amb peak : Int) : Int := IntKind.u64.wrap (if 16777216 < susV y amb peak then 16777216 else susV y amb peak)
theorem bmin (M : Mem) (a : Int) : Go.VE.builtin prog M .min #[2, 2] [.int .i64 a, .int .i64 16777216] = .val (.int .i64 (if 16777216 < a then 16777216 else a)) M := by
  simp [Go.VE.builtin, minInt, OpR.ofOpt]
def bdRow (y : Hr) (ps : AVal) (g : Gp) (ts : AVal) : List AVal := [.int .i64 y.1, .int .i64 y.2, ps, .int .i64 g.1, .int .i64 g.2.1, .int .i64 g.2.2, ts]
theorem bR132 {ps ts : AVal} (hv : Cell1 ps) (hw : Cell1 ts) (g : Gp) (most : Int) (M : Mem) : evBuildR prog M 132 [(0, ps), (1, .agg (gpRow g)), (2, ts), (3, .int .u64 most)] = .val (.agg (domRow ps g ts most 0 0 .nilPtr .nilPtr 0)) M := by
  rw [build_eq zr132 pl132]; simp [fillV, listAt, hv.1, hv.2, hw.1, hw.2, overlay, evAgg, solid_int, solid_agg, cells_int, cells_agg, gpRow, domRow]

/-- A domain that was just made. -/
def Dom0 (M M' : Mem) (o : Nat) (l : List Pt) (g : Gp) (tl : List Tp) (most : Int) : Prop :=
  ∃ ps ts go zo, M.next ≤ o ∧ M'.get o = some (.cells (domRow ps g ts most 0 0 (.ptr ⟨go, 0, 0, 8⟩) (.ptr ⟨zo, 0, 0, 4⟩) ((l.length : Int) - 1)) 0 0) ∧ Pts M' ps l ∧ Bk M.next o ps ∧ Tps M' ts tl ∧ Bk M.next o ts ∧
    ∃ M1 M2 : Mem, o < M1.next ∧ Gov0 M1 M' go l g ∧ go < M2.next ∧ Zone0 M2 M' zo tl 16
def dOk (y : Hr) (l : List Pt) (g : Gp) (tl : List Tp) (amb peak : Int) : Bool := susOk y amb peak && (gOk l g && zOk tl 16)
def K52 (C : Caller) : Prop := ∀ (o : Nat) (ps ts gv zv : AVal) (l : List Pt) (tl : List Tp) (g : Gp) (most load power hi : Int) (M : Mem), M.Fine → M.get o = some (.cells (domRow ps g ts most load power gv zv hi) 0 0) → Pts M ps l → Tps M ts tl → l.length ≤ 1000000 → tl.length ≤ 100000 →
    ((gOk l g && zOk tl 16) = false ∧ ∃ M', C 52 [.ptr ⟨o, 0, 0, 11⟩] M = some (.int .i64 1, M') ∧ FrS (· = o) M M' ∧ M'.Fine) ∨
    ((gOk l g && zOk tl 16) = true ∧ ∃ M' go zo, C 52 [.ptr ⟨o, 0, 0, 11⟩] M = some (.int .i64 0, M') ∧ FrS (· = o) M M' ∧ M'.Fine ∧ M'.get o = some (.cells (domRow ps g ts most load power (.ptr ⟨go, 0, 0, 8⟩) (.ptr ⟨zo, 0, 0, 4⟩) ((l.length : Int) - 1)) 0 0) ∧
      ∃ M1, M.next ≤ M1.next ∧ go < M1.next ∧ M1.next ≤ M'.next ∧ Gov0 M M' go l g ∧ Zone0 M1 M' zo tl 16)
theorem k52 {L : Lib} (h : L 52 = none) (h1 : K93 (callW prog L)) (h2 : K94 (callW prog L)) : K52 (callW prog L) := fun o ps ts gv zv l tl g most load power hi M hf hO hP hT hl htl => by rw [run52 h]; exact con52 _ h1 h2 hf hO hP hT hl htl

theorem con38 (C : Caller) (h20 : K20 C) (h78 : K78 C) (h79 : K79 C) (h52 : K52 C) {y : Hr} {ps ts : AVal} {l : List Pt} {g : Gp} {tl : List Tp} {amb peak : Int} {M : Mem} (hf : M.Fine) (hP : Pts M ps l) (hT : Tps M ts tl) (hl : l.length ≤ 1000000) (htl : tl.length ≤ 100000) :
    (dOk y l g tl amb peak = false ∧ ∃ M' p, J38_0 C (argsF [.agg (bdRow y ps g ts), .int .i64 amb, .int .i64 peak]) M = some (.tuple [p, .int .i64 1], M') ∧ Gr M M' ∧ M'.Fine) ∨
    (dOk y l g tl amb peak = true ∧ ∃ M' o, J38_0 C (argsF [.agg (bdRow y ps g ts), .int .i64 amb, .int .i64 peak]) M = some (.tuple [.ptr ⟨o, 0, 0, 11⟩, .int .i64 0], M') ∧ Gr M M' ∧ M'.Fine ∧ Dom0 M M' o l g tl (mostOf y amb peak)) := by
  have a0 : argsF [.agg (bdRow y ps g ts), .int .i64 amb, .int .i64 peak] 0 = .agg (bdRow y ps g ts) := rfl
  have a1 : argsF [.agg (bdRow y ps g ts), .int .i64 amb, .int .i64 peak] 1 = .int .i64 amb := rfl
  have a2 : argsF [.agg (bdRow y ps g ts), .int .i64 amb, .int .i64 peak] 2 = .int .i64 peak := rfl
  obtain ⟨M1, b1, b2, b3, b4, _⟩ := new_agg (M := M) (vs := bdRow y ps g ts) hf
  have l0 := b4.loadAggAt (P := prog) (t := 41) (n := 2) ag41 sz41 0 (by show 0 + 2 ≤ 7; omega)
  rw [show AVal.agg (((bdRow y ps g ts).drop 0).take 2) = .agg (hrRow y) from rfl] at l0
  obtain ⟨M2, c1, c2, c3⟩ := h20 y amb peak M1 b3
  have e4 := b4.ext b3 c2
  have hg2 := b2.trans c2
  rw [J38_0_eq]
  simp +contextual only [fput_some, Nat.reduceEqDiff, if_false, if_true, a0, a1, a2, stepK_ok, onOpK_val, b1, fa45_0, l0, onOpK_call, c1, callK_some]
  unfold susT
  cases hs : susOk y amb peak with
  | false =>
    left
    simp +contextual only [fput_some, Nat.reduceEqDiff, Bool.false_eq_true, if_false, stepK_ok, onOpK_val, evExtract_tuple, List.getElem?_cons_zero, List.getElem?_cons_succ, ofOpt_some, bin_neq, show ((1 : Int) != 0) = true from rfl, condK_true]
    exact ⟨by simp [dOk, hs], M2, _, rfl, hg2, c3⟩
  | true =>
    simp +contextual only [fput_some, Nat.reduceEqDiff, if_true, if_false, stepK_ok, onOpK_val, evExtract_tuple, List.getElem?_cons_zero, List.getElem?_cons_succ, ofOpt_some, bin_neq, show ((0 : Int) != 0) = false from rfl, condK_false]
    have l2 := e4.load (P := prog) (t := 42) ag42 2 (v := ps) rfl
    have l3 := e4.loadAggAt (P := prog) (t := 39) (n := 3) ag39 sz39 3 (by show 3 + 3 ≤ 7; omega)
    rw [show AVal.agg (((bdRow y ps g ts).drop 3).take 3) = .agg (gpRow g) from rfl] at l3
    have l6 := e4.load (P := prog) (t := 43) ag43 6 (v := ts) rfl
    have hP2 : Pts M2 ps l := hP.ext hf hg2
    have hT2 : Tps M2 ts tl := hT.ext hf hg2
    obtain ⟨s, M3, d1, d2, d3, d4, d5⟩ := h78 ps l M2 c3 hP2 hl
    have hT3 : Tps M3 ts tl := hT2.ext c3 d3
    obtain ⟨s', M4, f1, f2, f3, f4, f5⟩ := h79 ts tl M3 d4 hT3 (by omega)
    have e5 := e4.ext c3 d3
    have e6 := e5.ext d4 f3
    have q3 := e5.loadAggAt (P := prog) (t := 39) (n := 3) ag39 sz39 3 (by show 3 + 3 ≤ 7; omega)
    have r3 := e6.loadAggAt (P := prog) (t := 39) (n := 3) ag39 sz39 3 (by show 3 + 3 ≤ 7; omega)
    rw [show AVal.agg (((bdRow y ps g ts).drop 3).take 3) = .agg (gpRow g) from rfl] at q3 r3
    have q6 := e5.load (P := prog) (t := 43) ag43 6 (v := ts) rfl
    have svg : ∀ N, sameVal (.agg (gpRow g)) (.val (.agg (gpRow g)) N) = true := fun N => by simp [sameVal, AVal.beq, gpRow, all2, AVal.beq0]
    have svt : ∀ N, sameVal ts (.val ts N) = true := fun N => by
      rcases hT with ⟨_, rfl | rfl⟩ | ⟨a, cap, ex, rfl, _⟩
      · rfl
      · rfl
      · simp [sameVal, AVal.beq, AVal.beq0]
    have bR := bR132 d2.plain f2.plain g (mostOf y amb peak) M4
    obtain ⟨M5, n1, n2, n3, n4, n5⟩ := new_agg (M := M4) (vs := domRow s g s' (mostOf y amb peak) 0 0 .nilPtr .nilPtr 0) f4
    have n1 : evNew M4 (.agg (domRow s g s' (mostOf y amb peak) 0 0 .nilPtr .nilPtr 0)) = .val (.ptr ⟨M4.next, 0, 0, 11⟩) M5 := n1
    have eM5 : M5 = M4.alloc (.cells (domRow s g s' (mostOf y amb peak) 0 0 .nilPtr .nilPtr 0) 0 0) := by
      have e := n1; rw [evNew_one rfl] at e; simp only [OpR.val.injEq] at e; exact e.2.symm
    have hO : M5.get M4.next = some (.cells (domRow s g s' (mostOf y amb peak) 0 0 .nilPtr .nilPtr 0) 0 0) := by rw [eM5, Mem.get_alloc, if_pos rfl]
    have hP5 : Pts M5 s l := (d2.ext d4 f3).ext f4 n2
    have hT5 : Tps M5 s' tl := f2.ext f4 n2
    have hcv : ∀ N, evConvert prog N 2 24 (.int .i64 (if 16777216 < susV y amb peak then 16777216 else susV y amb peak)) = .val (.int .u64 (mostOf y amb peak)) N := fun N => conv_int un2 un24
    have k1 := c2.next; have k2 := d3.next; have k3 := f3.next; have k0 := b2.next
    have g5 : Gr M M5 := ((hg2.trans d3).trans f3).trans n2
    rw [J38_1_eq]
    rcases h52 M4.next s s' .nilPtr .nilPtr l tl g (mostOf y amb peak) 0 0 0 M5 n3 hO hP5 hT5 hl htl with ⟨hk, M6, p1, p2, p3⟩ | ⟨hk, M6, go, zo, p1, p2, p3, p4, MM, p5, p6, p7, p8, p9⟩
    · left
      simp +contextual only [fput_some, Nat.reduceEqDiff, if_true, if_false, stepK_ok, onOpK_val, fa45_1, fa45_2, fa45_3, l2, l3, l6, bmin, hcv, onOpK_call, d1, callK_some, q3, q6, svg, svt, Bool.and_true, onStillK_true, f1, r3, bR, n1, p1]
      refine ⟨by simp [dOk, hs, hk], M6, _, rfl, ⟨Nat.le_trans g5.next p2.next, fun id hid => ?_⟩, p3⟩
      rw [p2.same id (by have := g5.next; omega) (by omega)]; exact g5.same id hid
    · right
      simp +contextual only [fput_some, Nat.reduceEqDiff, if_true, if_false, stepK_ok, onOpK_val, fa45_1, fa45_2, fa45_3, l2, l3, l6, bmin, hcv, onOpK_call, d1, callK_some, q3, q6, svg, svt, Bool.and_true, onStillK_true, f1, r3, bR, n1, p1]
      refine ⟨by simp [dOk, hs, hk], M6, M4.next, rfl, ⟨Nat.le_trans g5.next p2.next, fun id hid => ?_⟩, p3, s, s', go, zo, by omega, p4, Sl.frs hP5 n3 p2 (Off.of_bk d5 (fun i h1 h2 => by omega)), d5.mono (by omega) (by omega), Sl.frs hT5 n3 p2 (Off.of_bk f5 (fun i h1 h2 => by omega)), f5.mono (by omega) (Nat.le_refl _), M5, MM, by rw [n5]; exact Nat.lt_succ_self _, p8, p6, p9⟩
      rw [p2.same id (by have := g5.next; omega) (by omega)]; exact g5.same id hid
end Go.Proofs.Tryz.W
namespace Go.Proofs.Tryz.W
attribute [local congr] stepK_cg onOpK_cg callK_cg condK_cg onStillK_cg

/-- A domain of a board, as it lies in memory. -/
structure Bd where
  y : Hr
  ps : AVal
  l : List Pt
  g : Gp
  ts : AVal
  tl : List Tp
def Bd.row (b : Bd) : List AVal := bdRow b.y b.ps b.g b.ts
def BdIn (M : Mem) (b : Bd) : Prop := Pts M b.ps b.l ∧ Tps M b.ts b.tl ∧ b.l.length ≤ 100000 ∧ b.tl.length ≤ 100000
def Bds (M : Mem) (v : AVal) (bs : List Bd) : Prop := Sl M v 7 (bs.map Bd.row) ∧ ∀ b ∈ bs, BdIn M b
theorem BdIn.ext {M M' : Mem} {b : Bd} (h : BdIn M b) (hf : M.Fine) (hg : Gr M M') : BdIn M' b := ⟨h.1.ext hf hg, h.2.1.ext hf hg, h.2.2⟩
theorem Bds.ext {M M' : Mem} {v : AVal} {bs : List Bd} (h : Bds M v bs) (hf : M.Fine) (hg : Gr M M') : Bds M' v bs := ⟨h.1.ext hf hg, fun b hb => (h.2 b hb).ext hf hg⟩

def bOk (amb lim : Int) (b : Bd) : Bool := dOk b.y b.l b.g b.tl amb lim
def K38 (C : Caller) : Prop := ∀ (b : Bd) (amb peak : Int) (M : Mem), M.Fine → BdIn M b →
    (bOk amb peak b = false ∧ ∃ M' p, C 38 [.agg b.row, .int .i64 amb, .int .i64 peak] M = some (.tuple [p, .int .i64 1], M') ∧ Gr M M' ∧ M'.Fine) ∨
    (bOk amb peak b = true ∧ ∃ M' o, C 38 [.agg b.row, .int .i64 amb, .int .i64 peak] M = some (.tuple [.ptr ⟨o, 0, 0, 11⟩, .int .i64 0], M') ∧ Gr M M' ∧ M'.Fine ∧ Dom0 M M' o b.l b.g b.tl (mostOf b.y amb peak))
theorem k38 {L : Lib} (h : L 38 = none) (h20 : K20 (callW prog L)) (h78 : K78 (callW prog L)) (h79 : K79 (callW prog L)) (h52 : K52 (callW prog L)) : K38 (callW prog L) := fun b amb peak M hf hb => by
  rw [run38 h]; exact con38 _ h20 h78 h79 h52 hf hb.1 hb.2.1 (by have := hb.2.2.1; omega) hb.2.2.2

theorem z45s : (zero prog 45).solid = true := by kernel_rfl
theorem z45l : (zero prog 45).cells.length = 7 := by kernel_rfl
theorem zc105 : zeroCells prog 105 = some (1, [AVal.nilPtr]) := by kernel_rfl
theorem by105 : Go.VE.bytes prog 105 = 8 := by kernel_rfl
theorem bR103 (b : Int) (M : Mem) : evBuildR prog M 103 [(1, .int .u64 b)] = .val (.agg [.nilSlice, .int .u64 b, .nilPtr]) M := by
  rw [build_eq zr103 pl103]; simp [fillV, listAt, overlay, evAgg, solid_int, cells_int]
theorem flat_one (x : List AVal) : [x].flatten = x := by simp
theorem sv_hr (y : Hr) (N : Mem) : sameVal (.agg (hrRow y)) (.val (.agg (hrRow y)) N) = true := by simp [sameVal, AVal.beq, hrRow, all2, AVal.beq0]
theorem bmap_len (f : Bd → List AVal) (bs : List Bd) : (bs.map f).length = bs.length := List.length_map ..

structure Inv11 (M0 M : Mem) (o : Nat) (bud : Int) (s h : AVal) (n : Nat) (hs : List Hr) : Prop where
  lo : M0.next ≤ o
  ob : M.get o = some (.cells [s, .int .u64 bud, .nilPtr] 0 0)
  ts : ∃ cs, TipX M s 1 n cs
  th : TipX M h 2 n (hs.map hrRow).flatten
  bs : ∀ i, blk s i → M0.next ≤ i ∧ i ≠ o
  bh : ∀ i, blk h i → M0.next ≤ i ∧ i ≠ o ∧ ¬ blk s i

theorem w11 (C : Caller) (h38 : K38 C) {M0 : Mem} (hf0 : M0.Fine) {v : AVal} {amb lim bud : Int} : ∀ (suf pre : List Bd) (e : FEnv) (M : Mem) (o : Nat) (s h : AVal), Bds M0 v (pre ++ suf) → M.Fine → Gr M0 M → Inv11 M0 M o bud s h pre.length (pre.map Bd.y) → e 2 = .int .i64 amb → e 3 = .int .i64 lim → e 12 = .ptr ⟨o, 0, 0, 3⟩ → e 13 = h → e 40 = v → e 41 = .int .i64 ((pre ++ suf).length : Int) → e 42 = .int .i64 (pre.length : Int) → (pre ++ suf).length ≤ 1000 →
    (suf.all (bOk amb lim) = false ∧ ∃ M', W11_3 C e M = some (.tuple [.nilPtr, .int .i64 1], M') ∧ Gr M0 M' ∧ M'.Fine) ∨
    (suf.all (bOk amb lim) = true ∧ ∃ e' M' s' h', W11_3 C e M = J11_2 C e' M' ∧ Gr M0 M' ∧ M'.Fine ∧ Inv11 M0 M' o bud s' h' (pre ++ suf).length ((pre ++ suf).map Bd.y) ∧ e' 0 = e 0 ∧ e' 1 = e 1 ∧ e' 2 = e 2 ∧ e' 12 = .ptr ⟨o, 0, 0, 3⟩ ∧ e' 13 = h') := by
  intro suf
  induction suf with
  | nil =>
    intro pre e M o s h hP hf hg hI g2 g3 g12 g13 g40 g41 g42 hl
    right
    rw [W11_3_eq]
    simp only [List.append_nil] at g41
    simp only [g41, g42, stepK_ok, onOpK_val, bin_lss, Int.lt_irrefl, decide_false, condK_false]
    refine ⟨rfl, _, M, s, h, rfl, hg, hf, by simpa using hI, ?_, ?_, ?_, ?_, ?_⟩ <;> simp only [fput_some, Nat.reduceEqDiff, if_false, g12, g13]
  | cons b r ih =>
    intro pre e M o s h hP hf hg hI g2 g3 g12 g13 g40 g41 g42 hl
    have hPM := hP.ext hf0 hg
    obtain ⟨q, hp1, hp2⟩ := hPM.1.idx un22 sz45 (i := pre.length) (r := b.row) (by simp) M
    have l0 := hp2.loadAgg (P := prog) (t := 45) ag45 sz45
    obtain ⟨M1, M2, b1, b2, b3, b4, b5, _, _⟩ := box_agg (P := prog) (M := M) (t := 45) (vs := b.row) z45s z45l sz45 rfl (by omega) hf
    have l1 := b5.loadAgg (P := prog) (t := 45) ag45 sz45
    have hb : BdIn M2 b := (hPM.2 b (by simp)).ext hf b3
    have hlt : ((pre.length : Int) < ((pre ++ b :: r).length : Int)) := by simp; omega
    have hw : IntKind.i64.wrap ((pre.length : Int) + 1) = ((pre ++ [b]).length : Int) := by
      rw [wrap_i64 (by omega) (by simp at hl; omega)]; simp
    rw [W11_3_eq]
    simp only [g41, g42, stepK_ok, onOpK_val, bin_lss, decide_eq_true hlt, condK_true]
    rw [J11_5_eq]
    rcases h38 b amb lim M2 b4 hb with ⟨hk, M3, p, c1, c2, c3⟩ | ⟨hk, M3, d, c1, c2, c3, c4⟩
    · left
      simp +contextual only [fput_some, Nat.reduceEqDiff, if_false, if_true, g2, g3, g12, g13, g40, g42, stepK_ok, onOpK_val, hp1, l0, b1, b2, l1, onOpK_call, c1, callK_some, evExtract_tuple, List.getElem?_cons_zero, List.getElem?_cons_succ, ofOpt_some, bin_neq, show ((1 : Int) != 0) = true from rfl, condK_true]
      exact ⟨by rw [List.all_cons, hk]; rfl, M3, rfl, (hg.trans b3).trans c2, c3⟩
    · have g23 := b3.trans c2
      have e3 := b5.ext b4 c2
      have hI3 : Inv11 M0 M3 o bud s h pre.length (pre.map Bd.y) := ⟨hI.lo, g23.get hf hI.ob, hI.ts.imp fun cs ht => ht.ext hf g23, hI.th.ext hf g23, hI.bs, hI.bh⟩
      have m1 := (ob_el (n := 3) hI3.ob rfl).load (P := prog) (t := 100) ag100 0 (v := s) rfl
      have w1 := row1 (P := prog) (M := M3) (t := 100) (x := .ptr ⟨d, 0, 0, 11⟩) un100 zc105 rfl rfl (by omega)
      have s1 : Sl (M3.alloc (.cells [.ptr ⟨d, 0, 0, 11⟩] 0 0)) (.slice ⟨M3.next, 0, 0, 1⟩ 1 1 1 true) 1 [[.ptr ⟨d, 0, 0, 11⟩]] := row1_sl rfl
      have f4 : (M3.alloc (.cells [.ptr ⟨d, 0, 0, 11⟩] 0 0)).Fine := c3.alloc _
      have g34 : Gr M3 (M3.alloc (.cells [.ptr ⟨d, 0, 0, 11⟩] 0 0)) := Gr.alloc M3 _
      generalize hM4 : M3.alloc (.cells [AVal.ptr ⟨d, 0, 0, 11⟩] 0 0) = M4 at s1 f4 g34
      have w1' : evBuildSliceR prog M3 100 1 [(0, .ptr ⟨d, 0, 0, 11⟩)] = .val (.slice ⟨M3.next, 0, 0, 1⟩ 1 1 1 true) M4 := by rw [w1, ← hM4]; rfl
      have e4 := e3.ext c3 g34
      have m2 := e4.loadAggAt (P := prog) (t := 41) (n := 2) ag41 sz41 0 (by show 0 + 2 ≤ 7; omega)
      rw [show AVal.agg (((Bd.row b).drop 0).take 2) = .agg (hrRow b.y) from rfl] at m2
      have w2 := row1 (P := prog) (M := M4) (t := 104) (x := .agg (hrRow b.y)) un104 zc41 rfl rfl (by omega)
      have s2 : Sl (M4.alloc (.cells (hrRow b.y) 0 0)) (.slice ⟨M4.next, 0, 0, 2⟩ 2 1 1 true) 2 [hrRow b.y] := row1_sl rfl
      have f5 : (M4.alloc (.cells (hrRow b.y) 0 0)).Fine := f4.alloc _
      have g45 : Gr M4 (M4.alloc (.cells (hrRow b.y) 0 0)) := Gr.alloc M4 _
      have n4 : M4.next = M3.next + 1 := by rw [← hM4]; rfl
      generalize hM5 : M4.alloc (.cells (hrRow b.y) 0 0) = M5 at s2 f5 g45
      have w2' : evBuildSliceR prog M4 104 1 [(0, .agg (hrRow b.y))] = .val (.slice ⟨M4.next, 0, 0, 2⟩ 2 1 1 true) M5 := by rw [w2, ← hM5]; rfl
      have g35 := g34.trans g45
      have e5 := e4.ext f4 g45
      have m5 := e5.loadAggAt (P := prog) (t := 41) (n := 2) ag41 sz41 0 (by show 0 + 2 ≤ 7; omega)
      rw [show AVal.agg (((Bd.row b).drop 0).take 2) = .agg (hrRow b.y) from rfl] at m5
      obtain ⟨cs, hts⟩ := hI3.ts
      have n1 := (s1.ext f4 g45).news
      rw [flat_one] at n1
      obtain ⟨s', M6, p1, p2, p3, p4, p5⟩ := (hts.ext c3 g35).push (P := prog) (t1 := 100) (m := 1) f5 un100 zc105 (by omega) (by omega) n1 rfl (fits_of by105 (by omega) (m := 1000000) (by omega) (by simp at hl; omega)) (fits_of by105 (by omega) (m := 1000000) (by omega) (by omega)) un100 (fun k hk => by cases hk)
      have hbox : ¬ blk s M.next := fun hb => absurd (hts.blk_lt c3 hb) (by
        obtain ⟨cs0, h0⟩ := hI.ts
        have := h0.blk_lt hf hb; omega)
      have e6 := e5.frs f5 p3 hbox
      have m6 := e6.loadAggAt (P := prog) (t := 41) (n := 2) ag41 sz41 0 (by show 0 + 2 ≤ 7; omega)
      rw [show AVal.agg (((Bd.row b).drop 0).take 2) = .agg (hrRow b.y) from rfl] at m6
      have hoff : Off (blk s) h := fun i hi => (hI.bh i hi).2.2
      have th6 : TipX M6 h 2 pre.length ((pre.map Bd.y).map hrRow).flatten := (hI3.th.ext c3 g35).frs f5 p3 hoff
      have hu : Off (blk s) (.slice ⟨M4.next, 0, 0, 2⟩ 2 1 1 true) := fun i hi hs => by
        have h1 := hts.blk_lt c3 hs
        have h2 := blk_slice hi
        simp only at h2; omega
      have n2 := (Sl.frs s2 f5 p3 hu).news
      rw [flat_one] at n2
      obtain ⟨h', M7, q1, q2, q3, q4, q5⟩ := th6.push (P := prog) (t1 := 104) (m := 1) p4 un104 zc41 (by omega) (by omega) n2 rfl (fits_of by41 (by omega) (m := 1000000) (by omega) (by simp at hl; omega)) (fits_of by41 (by omega) (m := 1000000) (by omega) (by omega)) un104 (fun k hk => by cases hk)
      have l35 := g35.next
      have l56 := p3.next
      have l67 := q3.next
      have lo3 := c3 _ _ hI3.ob
      have hobs : ¬ blk s o := fun hb => (hI.bs o hb).2 rfl
      have hobh : ¬ blk h o := fun hb => (hI.bh o hb).2.1 rfl
      have ob7 : M7.get o = some (.cells [s, .int .u64 bud, .nilPtr] 0 0) := q3.get p4 (p3.get f5 (g35.get c3 hI3.ob) hobs) hobh
      have st := ob_store (P := prog) (n := 3) (i := 0) (t := 100) (x := s') ob7 rfl sz100 (by omega) p2.plain.1 p2.plain.2
      have hset : ([s, AVal.int .u64 bud, .nilPtr] : List AVal).set 0 s' = [s', .int .u64 bud, .nilPtr] := rfl
      rw [hset] at st
      have hlths : ∀ i, blk s i → i < M3.next := fun i hi => hts.blk_lt c3 hi
      have hlthh : ∀ i, blk h i → i < M3.next := fun i hi => hI3.th.blk_lt c3 hi
      have o7 : Off (blk h) s' := fun i hi hh => by
        rcases p5 i hi with h1 | h1
        · exact (hI.bh i hh).2.2 h1
        · have := hlthh i hh; omega
      have g08 : Gr M0 (M7.set o (.cells [s', .int .u64 bud, .nilPtr] 0 0)) := by
        have h1 : Gr M0 M5 := ((hg.trans b3).trans c2).trans g35
        have h2 : FrS (fun i => M0.next ≤ i) M0 M7 := (FrS.of h1 |>.cat p3 (fun i _ hi => (hI.bs i hi).1)).cat q3 (fun i _ hi => (hI.bh i hi).1)
        exact (h2.set (.inr hI.lo) _).gr (fun i hi h => by omega)
      have o8s : ∀ i, blk s' i → M0.next ≤ i ∧ i ≠ o := fun i hi => by
        rcases p5 i hi with h1 | h1
        · exact hI.bs i h1
        · have := hI.lo; exact ⟨by omega, by omega⟩
      have o8h : ∀ i, blk h' i → M0.next ≤ i ∧ i ≠ o ∧ ¬ blk s' i := fun i hi => by
        rcases q5 i hi with h1 | h1
        · refine ⟨(hI.bh i h1).1, (hI.bh i h1).2.1, fun h2 => ?_⟩
          rcases p5 i h2 with h3 | h3
          · exact (hI.bh i h1).2.2 h3
          · have := hlthh i h1; omega
        · have := hI.lo
          refine ⟨by omega, by omega, fun h2 => ?_⟩
          have := p2.blk_lt p4 h2; omega
      have f8 : (M7.set o (.cells [s', .int .u64 bud, .nilPtr] 0 0)).Fine := q4.set (q4 _ _ ob7) _
      have fr8 : FrS (· = o) M7 (M7.set o (.cells [s', .int .u64 bud, .nilPtr] 0 0)) := FrS.set (S := (· = o)) (id := o) FrS.refl (.inr rfl) _
      have hI8 : Inv11 M0 (M7.set o (.cells [s', .int .u64 bud, .nilPtr] 0 0)) o bud s' h' (pre ++ [b]).length ((pre ++ [b]).map Bd.y) := by
        refine ⟨hI.lo, by rw [Mem.get_set, if_pos rfl], ⟨cs ++ [.ptr ⟨d, 0, 0, 11⟩], ?_⟩, ?_, o8s, o8h⟩
        · rw [List.length_append]; exact (p2.frs p4 q3 o7).frs q4 fr8 (fun i hi h => (o8s i hi).2 h)
        · have := q2.frs q4 fr8 (fun i hi h => (o8h i hi).2.1 h)
          simpa using this
      have key := fun E x2 x3 x12 x13 x40 x41 x42 => ih (pre ++ [b]) E _ o s' h' (by simpa using hP) f8 g08 hI8 x2 x3 x12 x13 x40 x41 x42 (by simpa using hl)
      have hsv := sv_hr b.y M6
      rw [show pre ++ b :: r = (pre ++ [b]) ++ r by simp]
      simp +contextual only [fput_some, Nat.reduceEqDiff, if_false, if_true, g2, g3, g12, g13, g40, g42, stepK_ok, onOpK_val, hp1, l0, b1, b2, l1, onOpK_call, c1, callK_some, evExtract_tuple, List.getElem?_cons_zero, List.getElem?_cons_succ, ofOpt_some, bin_neq, show ((0 : Int) != 0) = false from rfl, condK_false]
      rw [J11_8_eq]
      simp +contextual only [fput_some, Nat.reduceEqDiff, if_false, if_true, g2, g3, g12, g13, g40, g42, stepK_ok, onOpK_val, nck, fa103_0, m1, w1', fa45_0, m2, w2', p1, m6, hsv, Bool.and_true, onStillK_true, q1, st]
      rw [J11_7_eq]
      simp only [fput_some, Nat.reduceEqDiff, if_false, if_true, g42, stepK_ok, onOpK_val, bin_add, hw]
      rw [List.all_cons, hk, Bool.true_and]
      refine Or.imp id (And.imp_right (Exists.imp fun e' h => Exists.imp (fun M' h => Exists.imp (fun s1 h => Exists.imp (fun h1 h => ⟨h.1, h.2.1, h.2.2.1, h.2.2.2.1, h.2.2.2.2.1.trans ?_, h.2.2.2.2.2.1.trans ?_, h.2.2.2.2.2.2.1.trans ?_, h.2.2.2.2.2.2.2⟩) h) h) h)) (key _ ?_ ?_ ?_ ?_ ?_ ?_ ?_) <;> simp only [fput_some, Nat.reduceEqDiff, if_false, if_true, g2, g3, g12, g13, g40, g41, List.append_assoc, List.singleton_append]
end Go.Proofs.Tryz.W
