/-
  Part of a proof over this seat: see the last text.
-/
import Derived.Test.YtiikicpepnaghaaGreatDoorM44d
set_option linter.unusedSimpArgs false
set_option linter.unusedVariables false
open Go Go.VE
namespace Go.Proofs.Tryz.W
attribute [local congr] stepK_cg onOpK_cg callK_cg condK_cg onStillK_cg

theorem w46 (C : Caller) {M0 : Mem} (hf0 : M0.Fine) {v : AVal} : ∀ (suf pre : List Pt) (acc : List Pt) (p : Pt) (e : FEnv) (M : Mem) (out : AVal), Pts M0 v (pre ++ suf) → M.Fine → Gr M0 M → 1 ≤ pre.length → pre.length ≤ 8 → acc.length + 1 = pre.length → Tab M out M0.next (acc ++ [p]) → e 0 = v → e 3 = out → e 4 = .int .i64 (pre.length : Int) → (pre ++ suf).length ≤ 1000000 →
    ∃ w M', W46_3 C e M = some (w, M') ∧ Tab M' w M0.next (acc ++ tblFrom p (suf.take (8 - pre.length))) ∧ Gr M0 M' ∧ M'.Fine := by
  intro suf
  induction suf with
  | nil =>
    intro pre acc p e M out hP hf hg h1 h8 ha hT g0 g3 g4 hl
    have hlen := (hP.ext hf0 hg).len un42 M
    simp only [List.append_nil, List.length_map] at hlen
    rw [W46_3_eq]
    simp +contextual only [g0, g4, hlen, stepK_ok, onOpK_val, bin_lss, Int.lt_irrefl, decide_false, wantT, stepK_no, pick_b, cond_false, condK_false]
    rw [J46_2_eq]
    simp only [fput_some, Nat.reduceEqDiff, if_false, g3, stepK_ok, onOpK_val]
    exact ⟨out, M, rfl, by simpa [tblFrom] using hT, hg, hf⟩
  | cons x r ih =>
    intro pre acc p e M out hP hf hg h1 h8 ha hT g0 g3 g4 hl
    have hPM : Pts M v (pre ++ x :: r) := hP.ext hf0 hg
    have hlen := hPM.len un42 M
    simp only [List.length_map] at hlen
    have hlt : ((pre.length : Int) < ((pre ++ x :: r).length : Int)) := by simp; omega
    have hw : IntKind.i64.wrap ((pre.length : Int) + 1) = ((pre ++ [x]).length : Int) := by
      rw [wrap_i64 (by omega) (by simp at hl; omega)]; simp
    rw [W46_3_eq]
    simp +contextual only [g0, g4, hlen, stepK_ok, onOpK_val, bin_lss, decide_eq_true hlt, wantT, pick_b, cond_true]
    by_cases h7 : pre.length < 8
    · have h7' : decide ((pre.length : Int) < 8) = true := by simp; omega
      rw [h7']
      simp only [condK_true]
      have hw2 : IntKind.i64.wrap ((pre.length : Int) - 1) = (acc.length : Int) := by rw [wrap_i64 (by omega) (by omega)]; omega
      obtain ⟨q, hq1, hq2, hq3⟩ := hT.sl.idxA (P := prog) un42 sz61 (i := acc.length) (r := ptRow p) (by simp)
      have l0 := hq2.loadAgg (P := prog) ag61 sz61
      obtain ⟨M1, M2, b1, b2, b3, b4, b5, b6, b7⟩ := box_agg (P := prog) (M := M) (t := 61) (vs := ptRow p) z61s z61l sz61 rfl (by omega) hf
      obtain ⟨qr, hr1, hr2, hr3⟩ := hP.idxA (P := prog) un42 sz61 (i := pre.length) (r := ptRow x) (by simp)
      have g2 := hg.trans b3
      have hm := hg.next
      have k2 := hr2.ext hf0 g2
      have x0 := k2.load (P := prog) (t := 24) ag24 0 (v := .int .u64 x.1) rfl
      have y0 := b5.load (P := prog) (t := 24) ag24 0 (v := .int .u64 p.1) rfl
      -- the first field
      have st1 := ob_store (P := prog) (n := 3) (i := 0) (t := 24) (x := .int .u64 (IntKind.u64.wrap (IntKind.u64.wrap (p.1 + 1) + x.1.tmod 100))) b6 rfl sz24 (by omega) rfl rfl
      have ob3 : (M2.set M.next (.cells ((ptRow p).set 0 (.int .u64 (IntKind.u64.wrap (IntKind.u64.wrap (p.1 + 1) + x.1.tmod 100)))) 0 0)).get M.next = some (.cells [.int .u64 (IntKind.u64.wrap (IntKind.u64.wrap (p.1 + 1) + x.1.tmod 100)), .int .u64 p.2.1, .int .u64 p.2.2] 0 0) := by rw [Mem.get_set, if_pos rfl]; rfl
      have g3' : Gr M0 (M2.set M.next (.cells ((ptRow p).set 0 (.int .u64 (IntKind.u64.wrap (IntKind.u64.wrap (p.1 + 1) + x.1.tmod 100)))) 0 0)) := g2.set hm _
      have f3 : (M2.set M.next (.cells ((ptRow p).set 0 (.int .u64 (IntKind.u64.wrap (IntKind.u64.wrap (p.1 + 1) + x.1.tmod 100)))) 0 0)).Fine := b4.set (b4 _ _ b6) _
      have gg3 : Gr M (M2.set M.next (.cells ((ptRow p).set 0 (.int .u64 (IntKind.u64.wrap (IntKind.u64.wrap (p.1 + 1) + x.1.tmod 100)))) 0 0)) := b3.set (Nat.le_refl _) _
      generalize hM3 : M2.set M.next (.cells ((ptRow p).set 0 (.int .u64 (IntKind.u64.wrap (IntKind.u64.wrap (p.1 + 1) + x.1.tmod 100)))) 0 0) = M3 at st1 ob3 g3' f3 gg3
      have k3 := hr2.ext hf0 g3'
      have x1 := k3.load (P := prog) (t := 24) ag24 1 (v := .int .u64 x.2.1) rfl
      have y1 := (ob_el (n := 3) ob3 rfl).load (P := prog) (t := 24) ag24 1 (v := .int .u64 p.2.1) rfl
      have st2 := ob_store (P := prog) (n := 3) (i := 1) (t := 24) (x := .int .u64 (IntKind.u64.wrap (p.2.1 + x.2.1.tmod 4))) ob3 rfl sz24 (by omega) rfl rfl
      have ob4 : (M3.set M.next (.cells ([AVal.int .u64 (IntKind.u64.wrap (IntKind.u64.wrap (p.1 + 1) + x.1.tmod 100)), .int .u64 p.2.1, .int .u64 p.2.2].set 1 (.int .u64 (IntKind.u64.wrap (p.2.1 + x.2.1.tmod 4)))) 0 0)).get M.next = some (.cells [.int .u64 (IntKind.u64.wrap (IntKind.u64.wrap (p.1 + 1) + x.1.tmod 100)), .int .u64 (IntKind.u64.wrap (p.2.1 + x.2.1.tmod 4)), .int .u64 p.2.2] 0 0) := by rw [Mem.get_set, if_pos rfl]; rfl
      have g4' : Gr M0 (M3.set M.next (.cells ([AVal.int .u64 (IntKind.u64.wrap (IntKind.u64.wrap (p.1 + 1) + x.1.tmod 100)), .int .u64 p.2.1, .int .u64 p.2.2].set 1 (.int .u64 (IntKind.u64.wrap (p.2.1 + x.2.1.tmod 4)))) 0 0)) := g3'.set hm _
      have f4 : (M3.set M.next (.cells ([AVal.int .u64 (IntKind.u64.wrap (IntKind.u64.wrap (p.1 + 1) + x.1.tmod 100)), .int .u64 p.2.1, .int .u64 p.2.2].set 1 (.int .u64 (IntKind.u64.wrap (p.2.1 + x.2.1.tmod 4)))) 0 0)).Fine := f3.set (f3 _ _ ob3) _
      have gg4 : Gr M (M3.set M.next (.cells ([AVal.int .u64 (IntKind.u64.wrap (IntKind.u64.wrap (p.1 + 1) + x.1.tmod 100)), .int .u64 p.2.1, .int .u64 p.2.2].set 1 (.int .u64 (IntKind.u64.wrap (p.2.1 + x.2.1.tmod 4)))) 0 0)) := gg3.set (Nat.le_refl _) _
      generalize hM4 : M3.set M.next (.cells ([AVal.int .u64 (IntKind.u64.wrap (IntKind.u64.wrap (p.1 + 1) + x.1.tmod 100)), .int .u64 p.2.1, .int .u64 p.2.2].set 1 (.int .u64 (IntKind.u64.wrap (p.2.1 + x.2.1.tmod 4)))) 0 0) = M4 at st2 ob4 g4' f4 gg4
      have k4 := hr2.ext hf0 g4'
      have x2 := k4.load (P := prog) (t := 24) ag24 2 (v := .int .u64 x.2.2) rfl
      have y2 := (ob_el (n := 3) ob4 rfl).load (P := prog) (t := 24) ag24 2 (v := .int .u64 p.2.2) rfl
      have st3 := ob_store (P := prog) (n := 3) (i := 2) (t := 24) (x := .int .u64 (IntKind.u64.wrap (p.2.2 + x.2.2.tmod 30))) ob4 rfl sz24 (by omega) rfl rfl
      have ob5 : (M4.set M.next (.cells ([AVal.int .u64 (IntKind.u64.wrap (IntKind.u64.wrap (p.1 + 1) + x.1.tmod 100)), .int .u64 (IntKind.u64.wrap (p.2.1 + x.2.1.tmod 4)), .int .u64 p.2.2].set 2 (.int .u64 (IntKind.u64.wrap (p.2.2 + x.2.2.tmod 30)))) 0 0)).get M.next = some (.cells (ptRow (tblNext p x)) 0 0) := by rw [Mem.get_set, if_pos rfl]; rfl
      have g5' : Gr M0 (M4.set M.next (.cells ([AVal.int .u64 (IntKind.u64.wrap (IntKind.u64.wrap (p.1 + 1) + x.1.tmod 100)), .int .u64 (IntKind.u64.wrap (p.2.1 + x.2.1.tmod 4)), .int .u64 p.2.2].set 2 (.int .u64 (IntKind.u64.wrap (p.2.2 + x.2.2.tmod 30)))) 0 0)) := g4'.set hm _
      have f5 : (M4.set M.next (.cells ([AVal.int .u64 (IntKind.u64.wrap (IntKind.u64.wrap (p.1 + 1) + x.1.tmod 100)), .int .u64 (IntKind.u64.wrap (p.2.1 + x.2.1.tmod 4)), .int .u64 p.2.2].set 2 (.int .u64 (IntKind.u64.wrap (p.2.2 + x.2.2.tmod 30)))) 0 0)).Fine := f4.set (f4 _ _ ob4) _
      have gg5 : Gr M (M4.set M.next (.cells ([AVal.int .u64 (IntKind.u64.wrap (IntKind.u64.wrap (p.1 + 1) + x.1.tmod 100)), .int .u64 (IntKind.u64.wrap (p.2.1 + x.2.1.tmod 4)), .int .u64 p.2.2].set 2 (.int .u64 (IntKind.u64.wrap (p.2.2 + x.2.2.tmod 30)))) 0 0)) := gg4.set (Nat.le_refl _) _
      generalize hM5 : M4.set M.next (.cells ([AVal.int .u64 (IntKind.u64.wrap (IntKind.u64.wrap (p.1 + 1) + x.1.tmod 100)), .int .u64 (IntKind.u64.wrap (p.2.1 + x.2.1.tmod 4)), .int .u64 p.2.2].set 2 (.int .u64 (IntKind.u64.wrap (p.2.2 + x.2.2.tmod 30)))) 0 0) = M5 at st3 ob5 g5' f5 gg5
      have l5 := (ob_el (n := 3) ob5 rfl).loadAgg (P := prog) (t := 61) ag61 sz61
      obtain ⟨u, M6, c1, c2, c3, c4, c5⟩ := row1R (P := prog) (M := M5) (t := 42) (x := .agg (ptRow (tblNext p x))) un42 zc61 rfl rfl (by omega) f5
      have hT6 : Tab M6 out M0.next (acc ++ [p]) := by
        have gg6 := gg5.trans c3
        rcases hT with ⟨id, i1, i2⟩ | ⟨i1, i2⟩
        · exact .inl ⟨id, i1, i2.ext hf gg6⟩
        · exact .inr ⟨i1.ext hf gg6, i2⟩
      have n6 := c2.sl.news
      rw [show ([AVal.agg (ptRow (tblNext p x)) |>.cells] : List (List AVal)).flatten = ptRow (tblNext p x) by simp [AVal.cells]] at n6
      obtain ⟨out', M7, d1, d2, d3, d4⟩ := hT6.push c4 (Nat.le_trans g5'.next c3.next) n6 (by simp; omega)
      have g7 : Gr M0 M7 := ((FrS.of (S := fun i => M0.next ≤ i) (g5'.trans c3)).trans d3).gr (fun i hi h => by omega)
      rw [J46_4_eq]
      simp +contextual (maxSteps := 5000000) only [fput_some, Nat.reduceEqDiff, if_false, if_true, g0, g3, g4, stepK_ok, onOpK_val, bin_sub, hw2, hq1, l0, b1, b2, fa61_0, fa61_1, fa61_2, x0, y0, bin_add, hr1, bin_rem (show (100 : Int) ≠ 0 by decide), bin_rem (show (4 : Int) ≠ 0 by decide), bin_rem (show (30 : Int) ≠ 0 by decide), st1, onStillK_true, x1, y1, st2, x2, y2, st3, l5, c1, d1]
      rw [J46_5_eq]
      simp only [fput_some, Nat.reduceEqDiff, if_false, if_true, g4, stepK_ok, onOpK_val, bin_add, hw]
      have htk : (x :: r).take (8 - pre.length) = x :: r.take (8 - (pre ++ [x]).length) := by
        rw [show 8 - pre.length = (8 - (pre ++ [x]).length) + 1 by simp; omega, List.take_succ_cons]
      rw [htk]
      have key := ih (pre ++ [x]) (acc ++ [p]) (tblNext p x)
      rw [show acc ++ tblFrom p (x :: r.take (8 - (pre ++ [x]).length)) = (acc ++ [p]) ++ tblFrom (tblNext p x) (r.take (8 - (pre ++ [x]).length)) by simp [tblFrom]]
      refine key _ M7 out' (by simpa using hP) d4 g7 (by simp) (by simp; omega) (by simp; omega) d2 ?_ ?_ ?_ (by simpa using hl) <;> simp only [fput_some, Nat.reduceEqDiff, if_false, if_true, g0]
    · have h8' : pre.length = 8 := by omega
      have h7' : decide ((pre.length : Int) < 8) = false := by simp; omega
      rw [h7']
      simp only [condK_false]
      rw [J46_2_eq]
      simp only [fput_some, Nat.reduceEqDiff, if_false, g3, stepK_ok, onOpK_val]
      exact ⟨out, M, rfl, by simpa [tblFrom, h8'] using hT, hg, hf⟩

theorem con46 (C : Caller) {v : AVal} {l : List Pt} {M : Mem} (hP : Pts M v l) (hf : M.Fine) (hl : l.length ≤ 1000000) :
    ∃ w M', J46_0 C (argsF [v]) M = some (w, M') ∧ Tab M' w M.next (tbl l) ∧ Gr M M' ∧ M'.Fine := by
  have a0 : argsF [v] 0 = v := rfl
  have hlen : ∀ N, Go.VE.builtin prog N .len #[42] [v] = .val (.int .i64 (l.length : Int)) N := fun N => by have := hP.len un42 N; simpa using this
  obtain ⟨u, M1, c1, c2, c3, c4, c5⟩ := row1R (P := prog) (M := M) (t := 42) (x := .agg (ptRow (1, 5, 0))) un42 zc61 rfl rfl (by omega) hf
  rw [J46_0_eq]
  cases l with
  | nil =>
    simp +contextual only [fput_some, Nat.reduceEqDiff, if_false, if_true, a0, stepK_ok, onOpK_val, bR61b, c1, hlen, List.length_nil, bin_gtr, show decide (((0 : Nat) : Int) > 0) = false from rfl, condK_false]
    rw [J46_1_eq]
    simp only [stepK_ok, onOpK_val]
    rw [W46_3_eq]
    simp +contextual only [fput_some, Nat.reduceEqDiff, if_false, if_true, a0, hlen, List.length_nil, stepK_ok, onOpK_val, bin_lss, show decide ((1 : Int) < ((0 : Nat) : Int)) = false from rfl, wantT, stepK_no, pick_b, cond_false, condK_false]
    rw [J46_2_eq]
    simp only [fput_some, Nat.reduceEqDiff, if_false, if_true, stepK_ok, onOpK_val]
    exact ⟨u, M1, rfl, .inl ⟨M.next, Nat.le_refl _, by simpa [tbl, AVal.cells] using c2⟩, c3, c4⟩
  | cons x r =>
    have hP1 : Pts M1 v (x :: r) := hP.ext hf c3
    obtain ⟨q, hq1, hq2, _⟩ := hP1.idxA (P := prog) un42 sz61 (i := 0) (r := ptRow x) rfl
    have x0 := hq2.load (P := prog) (t := 24) ag24 0 (v := .int .u64 x.1) rfl
    have x1 := hq2.load (P := prog) (t := 24) ag24 1 (v := .int .u64 x.2.1) rfl
    have x2 := hq2.load (P := prog) (t := 24) ag24 2 (v := .int .u64 x.2.2) rfl
    have iq : ∀ N, evIndexAddr prog N 42 v (.int .i64 0) = .val (.ptr q) N := hq1
    have io : ∀ N, evIndexAddr prog N 42 u (.int .i64 0) = .val (.ptr ⟨M.next, 0, 0, 3⟩) N := fun N => c2.idx un42 sz61 (i := 0) (by simp) N
    obtain ⟨M2, s1, s2, s3⟩ := c2.storeR (P := prog) (e := 61) sz61 (i := 0) (r := ptRow (IntKind.u64.wrap (1 + x.1.tmod 100), x.2.1.tmod 100, x.2.2.tmod 100)) (by simp) rfl
    have s1 : evStore prog M1 61 (.ptr ⟨M.next, 0, 0, 3⟩) (.agg (ptRow (IntKind.u64.wrap (1 + x.1.tmod 100), x.2.1.tmod 100, x.2.2.tmod 100))) = .val (.tuple []) M2 := s1
    have hgt : decide ((((x :: r).length : Nat) : Int) > 0) = true := by simp
    have g2 : Gr M M2 := by rw [s3]; exact c3.set (Nat.le_refl _) _
    have f2 : M2.Fine := by rw [s3]; exact c4.set (c4 _ _ c2.2.1) _
    simp +contextual only [fput_some, Nat.reduceEqDiff, if_false, if_true, a0, stepK_ok, onOpK_val, bR61b, c1, hlen, bin_gtr, hgt, condK_true, iq, fa61_0, fa61_1, fa61_2, x0, x1, x2, bin_rem (show (100 : Int) ≠ 0 by decide), bin_add, bR61, io, s1, onStillK_true]
    rw [J46_1_eq]
    simp only [stepK_ok, onOpK_val]
    have hT : Tab M2 u M.next ([] ++ [(IntKind.u64.wrap (1 + x.1.tmod 100), x.2.1.tmod 100, x.2.2.tmod 100)]) := .inl ⟨M.next, Nat.le_refl _, s2⟩
    have key := fun E x0 x3 x4 => w46 C hf (v := v) r [x] [] (IntKind.u64.wrap (1 + x.1.tmod 100), x.2.1.tmod 100, x.2.2.tmod 100) E M2 u hP f2 g2 (by simp) (by simp) rfl hT x0 x3 x4 hl
    refine key _ ?_ ?_ ?_ <;> simp only [fput_some, Nat.reduceEqDiff, if_false, if_true, a0] <;> rfl
def K46 (C : Caller) : Prop := ∀ (v : AVal) (l : List Pt) (M : Mem), M.Fine → Pts M v l → l.length ≤ 1000000 → ∃ w M', C 46 [v] M = some (w, M') ∧ Tab M' w M.next (tbl l) ∧ Gr M M' ∧ M'.Fine
theorem k46 {L : Lib} (h : L 46 = none) : K46 (callW prog L) := fun v l M hf hP hl => by rw [run46 h]; exact con46 _ hP hf hl
end Go.Proofs.Tryz.W
namespace Go.Proofs.Tryz.W
attribute [local congr] stepK_cg onOpK_cg callK_cg condK_cg onStillK_cg

def tripOf (x : Tp) : Tp := (IntKind.i64.wrap (1 + modv x.1 3), IntKind.i64.wrap (IntKind.i64.wrap ((IntKind.u64.wrap x.2.1).tmod 101) - 50), IntKind.i64.wrap ((IntKind.u64.wrap x.2.2).tmod 20))
theorem bR205 (a b c : Int) (M : Mem) : evBuildR prog M 205 [(0, .int .i64 a), (1, .int .i64 b), (2, .int .i64 c)] = .val (.agg (tpRow (a, b, c))) M := by
  rw [build_eq zr205 pl205]; simp [fillV, listAt, overlay, evAgg, solid_int, cells_int, tpRow]
theorem fit205 {n : Nat} (h : n ≤ 1000000) : fits prog 205 n = true := fits_of by205 (by omega) (m := 1000000) (by omega) h

/-- A slice of one's own with room at its tip, from lo on. -/
def TipL (M : Mem) (v : AVal) (lo sz : Nat) (rows : List (List AVal)) : Prop := TipX M v sz rows.length rows.flatten ∧ (∀ i, blk v i → lo ≤ i) ∧ ∀ r ∈ rows, r.length = sz
theorem TipL.nil {M : Mem} {lo sz : Nat} : TipL M .nilSlice lo sz [] := ⟨.nil, fun i hi => (blk_nil hi).elim, fun r hr => by cases hr⟩
theorem TipL.sl {M : Mem} {v : AVal} {lo sz : Nat} {rows : List (List AVal)} (h : TipL M v lo sz rows) : Sl M v sz rows := TipX.sl h.1 h.2.2
theorem TipL.ext {M M' : Mem} {v : AVal} {lo sz : Nat} {rows : List (List AVal)} (h : TipL M v lo sz rows) (hf : M.Fine) (hg : Gr M M') : TipL M' v lo sz rows := ⟨h.1.ext hf hg, h.2⟩
theorem TipL.push {M : Mem} {v r : AVal} {lo sz : Nat} {rows : List (List AVal)} {y zs : List AVal} {t e : TypeId} (h : TipL M v lo sz rows) (hf : M.Fine) (hlo : lo ≤ M.next) (ht : prog.underlying t = some (.slice e)) (hz : zeroCells prog e = some (sz, zs)) (h0 : 0 < sz) (hr : newsOf M sz r = some y) (hy : y.length = sz) (hfit : fits prog e (rows.length + 1) = true) (hfit1 : fits prog e 1 = true) :
    ∃ v' M', Go.VE.builtin prog M .append #[t, t] [v, r] = .val v' M' ∧ TipL M' v' lo sz (rows ++ [y]) ∧ FrS (blk v) M M' ∧ M'.Fine ∧ (∀ i, blk v' i → blk v i ∨ M.next ≤ i) := by
  obtain ⟨v', M', p1, p2, p3, p4, p5⟩ := h.1.push (P := prog) (m := 1) (t1 := t) hf ht hz h0 (by omega) hr (by rw [hy, Nat.one_mul]) hfit hfit1 ht (fun k hk => by cases hk)
  refine ⟨v', M', p1, ⟨?_, fun i hi => ?_, fun q hq => ?_⟩, p3, p4, p5⟩
  · rw [List.length_append, List.flatten_append]; simpa using p2
  · rcases p5 i hi with h1 | h1
    · exact h.2.1 i h1
    · omega
  · rcases List.mem_append.mp hq with h1 | h1
    · exact h.2.2 q h1
    · rw [List.mem_singleton.mp h1]; exact hy

theorem w47 (C : Caller) (h14 : K14 C) {M0 : Mem} (hf0 : M0.Fine) {v : AVal} : ∀ (suf pre : List Tp) (e : FEnv) (M : Mem) (out : AVal), Tps M0 v (pre ++ suf) → M.Fine → Gr M0 M → pre.length ≤ 6 → TipL M out M0.next 3 ((pre.map tripOf).map tpRow) → e 0 = v → e 3 = out → e 4 = .int .i64 (pre.length : Int) → (pre ++ suf).length ≤ 1000000 →
    ∃ w M', W47_2 C e M = some (w, M') ∧ TipL M' w M0.next 3 (((pre ++ suf.take (6 - pre.length)).map tripOf).map tpRow) ∧ Gr M0 M' ∧ M'.Fine := by
  intro suf
  induction suf with
  | nil =>
    intro pre e M out hP hf hg h8 hT g0 g3 g4 hl
    have hlen := (hP.ext hf0 hg).len un43 M
    simp only [List.append_nil, List.length_map] at hlen
    rw [W47_2_eq]
    simp +contextual only [g0, g4, hlen, stepK_ok, onOpK_val, bin_lss, Int.lt_irrefl, decide_false, wantT, stepK_no, pick_b, cond_false, condK_false]
    rw [J47_1_eq]
    simp only [fput_some, Nat.reduceEqDiff, if_false, g3, stepK_ok, onOpK_val]
    exact ⟨out, M, rfl, by simpa using hT, hg, hf⟩
  | cons x r ih =>
    intro pre e M out hP hf hg h8 hT g0 g3 g4 hl
    have hPM : Tps M v (pre ++ x :: r) := hP.ext hf0 hg
    have hlen := hPM.len un43 M
    simp only [List.length_map] at hlen
    have hlt : ((pre.length : Int) < ((pre ++ x :: r).length : Int)) := by simp; omega
    have hw : IntKind.i64.wrap ((pre.length : Int) + 1) = ((pre ++ [x]).length : Int) := by
      rw [wrap_i64 (by omega) (by simp at hl; omega)]; simp
    rw [W47_2_eq]
    simp +contextual only [g0, g4, hlen, stepK_ok, onOpK_val, bin_lss, decide_eq_true hlt, wantT, pick_b, cond_true]
    by_cases h7 : pre.length < 6
    · have h7' : decide ((pre.length : Int) < 6) = true := by simp; omega
      rw [h7']
      simp only [condK_true]
      obtain ⟨q, hq1, hq2, _⟩ := hPM.idxA (P := prog) un43 sz205 (i := pre.length) (r := tpRow x) (by simp)
      have x0 := hq2.load (P := prog) (t := 3) ag3 0 (v := .int .i64 x.1) rfl
      have x1 := hq2.load (P := prog) (t := 2) ag2 1 (v := .int .i64 x.2.1) rfl
      have x2 := hq2.load (P := prog) (t := 2) ag2 2 (v := .int .i64 x.2.2) rfl
      have c14 := h14 x.1 3 M (by decide) (by decide)
      obtain ⟨u, M1, c1, c2, c3, c4, c5⟩ := row1R (P := prog) (M := M) (t := 43) (x := .agg (tpRow (tripOf x))) un43 zc205 rfl rfl (by omega) hf
      have n6 := c2.sl.news
      rw [show ([AVal.agg (tpRow (tripOf x)) |>.cells] : List (List AVal)).flatten = tpRow (tripOf x) by simp [AVal.cells]] at n6
      obtain ⟨out', M2, d1, d2, d3, d4, d5⟩ := (hT.ext hf c3).push c4 (Nat.le_trans hg.next c3.next) un43 zc205 (by omega) n6 rfl (fit205 (by simp; omega)) (fit205 (by omega))
      have g2 : Gr M0 M2 := ((FrS.of (S := fun i => M0.next ≤ i) (hg.trans c3)).cat d3 (fun i _ hi => hT.2.1 i hi)).gr (fun i hi h => by omega)
      have hrow : AVal.agg (tpRow (IntKind.i64.wrap (1 + modv x.1 3), IntKind.i64.wrap (IntKind.i64.wrap ((IntKind.u64.wrap x.2.1).tmod 101) - 50), IntKind.i64.wrap ((IntKind.u64.wrap x.2.2).tmod 20))) = .agg (tpRow (tripOf x)) := rfl
      rw [J47_3_eq]
      simp +contextual (maxSteps := 5000000) only [fput_some, Nat.reduceEqDiff, if_false, if_true, g0, g3, g4, stepK_ok, onOpK_val, hq1, fa205_0, fa205_1, fa205_2, x0, x1, x2, conv_int un2 un24, conv_int un24 un2, bin_rem (show (101 : Int) ≠ 0 by decide), bin_rem (show (20 : Int) ≠ 0 by decide), bin_sub, bin_add, onOpK_call, c14, callK_some, sv_int, Bool.and_true, onStillK_true, bR205, hrow, c1, d1]
      rw [J47_4_eq]
      simp only [fput_some, Nat.reduceEqDiff, if_false, if_true, g4, stepK_ok, onOpK_val, bin_add, hw]
      have htk : (x :: r).take (6 - pre.length) = x :: r.take (6 - (pre ++ [x]).length) := by
        rw [show 6 - pre.length = (6 - (pre ++ [x]).length) + 1 by simp; omega, List.take_succ_cons]
      rw [htk, show pre ++ x :: r.take (6 - (pre ++ [x]).length) = (pre ++ [x]) ++ r.take (6 - (pre ++ [x]).length) by simp]
      refine ih (pre ++ [x]) _ M2 out' (by simpa using hP) d4 g2 (by simp; omega) (by simpa using d2) ?_ ?_ ?_ (by simpa using hl) <;> simp only [fput_some, Nat.reduceEqDiff, if_false, if_true, g0]
    · have h8' : pre.length = 6 := by omega
      have h7' : decide ((pre.length : Int) < 6) = false := by simp; omega
      rw [h7']
      simp only [condK_false]
      rw [J47_1_eq]
      simp only [fput_some, Nat.reduceEqDiff, if_false, g3, stepK_ok, onOpK_val]
      exact ⟨out, M, rfl, by simpa [h8'] using hT, hg, hf⟩
def trips (l : List Tp) : List Tp := (l.take 6).map tripOf
def K47 (C : Caller) : Prop := ∀ (v : AVal) (l : List Tp) (M : Mem), M.Fine → Tps M v l → l.length ≤ 1000000 → ∃ w M', C 47 [v] M = some (w, M') ∧ TipL M' w M.next 3 ((trips l).map tpRow) ∧ Gr M M' ∧ M'.Fine
theorem k47 {L : Lib} (h : L 47 = none) (h14 : K14 (callW prog L)) : K47 (callW prog L) := fun v l M hf hP hl => by
  rw [run47 h, J47_0_eq]
  have a0 : argsF [v] 0 = v := rfl
  simp only [stepK_ok, onOpK_val]
  refine w47 _ h14 hf l [] _ M .nilSlice hP hf (Gr.refl M) (by simp) .nil ?_ ?_ ?_ hl <;> simp only [fput_some, Nat.reduceEqDiff, if_false, if_true, a0] <;> rfl
end Go.Proofs.Tryz.W
namespace Go.Proofs.Tryz.W
attribute [local congr] stepK_cg onOpK_cg callK_cg condK_cg onStillK_cg

def domOf (x : Hr) : Hr := (IntKind.i64.wrap (IntKind.i64.wrap (1 + IntKind.i64.wrap ((IntKind.u64.wrap x.2).tmod 6)) + IntKind.i64.wrap ((IntKind.u64.wrap x.1).tmod 8)), IntKind.i64.wrap (1 + IntKind.i64.wrap ((IntKind.u64.wrap x.2).tmod 6)))
def doms1 (hs : List Hr) : List Hr := if hs = [] then [(1, 1)] else (hs.take 5).map domOf
theorem bR41 (a b : Int) (M : Mem) : evBuildR prog M 41 [(0, .int .i64 a), (1, .int .i64 b)] = .val (.agg (hrRow (a, b))) M := by
  rw [build_eq zr41 pl41]; simp [fillV, listAt, overlay, evAgg, solid_int, cells_int, hrRow]

/-- The boxes of law38.Some: the result, the system, its domains. -/
structure Inv45 (M0 M : Mem) (b6 b8 d : Nat) (dv lv : AVal) (amb : Int) (ds : List Hr) (ls : List Lk) : Prop where
  l6 : M0.next ≤ b6
  l8 : M0.next ≤ b8
  ld : M0.next ≤ d
  n1 : b6 ≠ b8
  n2 : b6 ≠ d
  n3 : b8 ≠ d
  o6 : M.get b6 = some (.cells [.nilSlice, .nilSlice, .int .i64 0] 0 0)
  o8 : M.get b8 = some (.cells [dv, lv, .int .i64 amb] 0 0)
  od : OwnR M dv d 2 (ds.map hrRow)
  ol : TipL M lv M0.next 3 (ls.map lkRow)
  nl : ∀ i, blk lv i → i ≠ b6 ∧ i ≠ b8 ∧ i ≠ d
  hn : ls = [] → lv = .nilSlice
theorem Inv45.ext {M0 M M' : Mem} {b6 b8 d : Nat} {dv lv : AVal} {amb : Int} {ds : List Hr} {ls : List Lk} (h : Inv45 M0 M b6 b8 d dv lv amb ds ls) (hf : M.Fine) (hg : Gr M M') : Inv45 M0 M' b6 b8 d dv lv amb ds ls :=
  ⟨h.l6, h.l8, h.ld, h.n1, h.n2, h.n3, hg.get hf h.o6, hg.get hf h.o8, h.od.ext hf hg, h.ol.ext hf hg, h.nl, h.hn⟩
/-- A domain is changed. -/
theorem Inv45.dset {M0 M : Mem} {b6 b8 d : Nat} {dv lv : AVal} {amb : Int} {ds ds' : List Hr} {ls : List Lk} (h : Inv45 M0 M b6 b8 d dv lv amb ds ls) (hf : M.Fine) {b : ABlock} (ho : OwnR (M.set d b) dv d 2 (ds'.map hrRow)) : Inv45 M0 (M.set d b) b6 b8 d dv lv amb ds' ls := by
  have fr : FrS (· = d) M (M.set d b) := FrS.set (S := (· = d)) (id := d) FrS.refl (.inr rfl) _
  exact ⟨h.l6, h.l8, h.ld, h.n1, h.n2, h.n3, fr.get hf h.o6 h.n2, fr.get hf h.o8 h.n3, ho, ⟨h.ol.1.frs hf fr (fun i hi => (h.nl i hi).2.2), h.ol.2⟩, h.nl, h.hn⟩

theorem hr_set {ds : List Hr} {i : Nat} (y : Hr) : (ds.map hrRow).set i (hrRow y) = (ds.set i y).map hrRow := by rw [List.map_set]

theorem w45a (C : Caller) {M0 : Mem} (hf0 : M0.Fine) {v : AVal} {b6 b8 d : Nat} {dv : AVal} {amb : Int} {hs : List Hr} (hP : Hrs M0 v hs) (hl : hs.length ≤ 1000000) {n : Nat} (hn5 : n ≤ 5) (hnl : hs ≠ [] → n ≤ hs.length) : ∀ (k i : Nat) (ds : List Hr) (e : FEnv) (M : Mem), i + k = n → ds.length = n → M.Fine → Gr M0 M → Inv45 M0 M b6 b8 d dv .nilSlice amb ds [] → e 0 = v → e 6 = .ptr ⟨b6, 0, 0, 3⟩ → e 7 = .int .i64 (n : Int) → e 8 = .ptr ⟨b8, 0, 0, 3⟩ → e 9 = .int .i64 (i : Int) →
    ∃ e' M', W45_2 C e M = J45_1 C e' M' ∧ M'.Fine ∧ Gr M0 M' ∧ Inv45 M0 M' b6 b8 d dv .nilSlice amb (ds.take i ++ (if hs = [] then List.replicate k (1, 1) else ((hs.drop i).take k).map domOf)) [] ∧ e' 0 = v ∧ e' 1 = e 1 ∧ e' 6 = e 6 ∧ e' 7 = e 7 ∧ e' 8 = e 8 := by
  intro k
  induction k with
  | zero =>
    intro i ds e M hi hd hf hg hI g0 g6 g7 g8 g9
    have : i = n := by omega
    subst this
    rw [W45_2_eq]
    simp only [g7, g9, stepK_ok, onOpK_val, bin_lss, Int.lt_irrefl, decide_false, condK_false]
    refine ⟨_, M, rfl, hf, hg, ?_, ?_, ?_, ?_, ?_, ?_⟩
    · have e1 : ds.take i ++ (if hs = [] then List.replicate 0 ((1 : Int), (1 : Int)) else ((hs.drop i).take 0).map domOf) = ds := by
        rw [List.take_of_length_le (by omega)]; split <;> simp
      rw [e1]; exact hI
    all_goals simp only [fput_some, Nat.reduceEqDiff, if_false, g0, g7]
  | succ k ih =>
    intro i ds e M hi hd hf hg hI g0 g6 g7 g8 g9
    have hlt : decide ((i : Int) < (n : Int)) = true := by simp; omega
    have hw : IntKind.i64.wrap ((i : Int) + 1) = ((i + 1 : Nat) : Int) := by rw [wrap_i64 (by omega) (by omega)]; simp
    have hlen : ∀ N, Go.VE.builtin prog N .len #[104] [v] = .val (.int .i64 (hs.length : Int)) N := fun N => by have := hP.len un104 N; simpa using this
    have hid : i < (ds.map hrRow).length := by rw [List.length_map]; omega
    have ld0 := (ob_el (n := 3) hI.o8 rfl).load (P := prog) (t := 104) ag104 0 (v := dv) rfl
    have ix := fun N => hI.od.idx (P := prog) un104 sz41 hid N
    obtain ⟨M1, s1, s2, s3⟩ := hI.od.storeR (P := prog) (e := 41) sz41 hid (r := hrRow (1, 1)) rfl
    rw [hr_set] at s2
    have hI1 : Inv45 M0 M1 b6 b8 d dv .nilSlice amb (ds.set i (1, 1)) [] := by subst s3; exact hI.dset hf s2
    have f1 : M1.Fine := by rw [s3]; exact hf.set (hf _ _ hI.od.2.1) _
    have g1 : Gr M0 M1 := by rw [s3]; exact hg.set hI.ld _
    rw [W45_2_eq]
    simp only [g7, g9, stepK_ok, onOpK_val, bin_lss, hlt, condK_true]
    rw [J45_5_eq]
    simp only [List.length_map, hd] at ix s1
    by_cases he : hs = []
    · have hc : decide ((i : Int) < (hs.length : Int)) = false := by rw [he]; simp
      simp +contextual only [fput_some, Nat.reduceEqDiff, if_false, if_true, g0, g6, g7, g8, g9, stepK_ok, onOpK_val, fa124_0, ld0, bR41, ix, s1, hlen, bin_lss, hc, condK_false]
      rw [J45_7_eq]
      simp only [fput_some, Nat.reduceEqDiff, if_false, if_true, g9, stepK_ok, onOpK_val, bin_add, hw]
      have key := fun E x0 x6 x7 x8 x9 => ih (i + 1) (ds.set i (1, 1)) E M1 (by omega) (by simpa using hd) f1 g1 hI1 x0 x6 x7 x8 x9
      have e1 : (ds.set i ((1 : Int), (1 : Int))).take (i + 1) ++ (if hs = [] then List.replicate k ((1 : Int), (1 : Int)) else ((hs.drop (i + 1)).take k).map domOf) = ds.take i ++ (if hs = [] then List.replicate (k + 1) (1, 1) else ((hs.drop i).take (k + 1)).map domOf) := by
        rw [if_pos he, if_pos he, List.take_add_one, List.take_set_of_le (Nat.le_refl _), List.getElem?_set_self (by omega), List.replicate_succ]; simp
      rw [e1] at key
      refine Exists.imp (fun e' h => Exists.imp (fun M' h => ⟨h.1, h.2.1, h.2.2.1, h.2.2.2.1, h.2.2.2.2.1, h.2.2.2.2.2.1.trans ?_, h.2.2.2.2.2.2.1.trans ?_, h.2.2.2.2.2.2.2.1.trans ?_, h.2.2.2.2.2.2.2.2.trans ?_⟩) h) (key _ ?_ ?_ ?_ ?_ ?_) <;> simp only [fput_some, Nat.reduceEqDiff, if_false, if_true, g0, g6, g7, g8]
    · have hil : i < hs.length := by have := hnl he; omega
      have hc : decide ((i : Int) < (hs.length : Int)) = true := by simp; omega
      obtain ⟨x, hx⟩ : ∃ x, hs[i]? = some x := ⟨hs[i], List.getElem?_eq_getElem hil⟩
      obtain ⟨q, hq1, hq2, hq3⟩ := hP.idxA (P := prog) un104 sz41 (i := i) (r := hrRow x) (by rw [List.getElem?_map, hx]; rfl)
      have ld1 := (ob_el (n := 3) hI1.o8 rfl).load (P := prog) (t := 104) ag104 0 (v := dv) rfl
      have x1 := (hq2.ext hf0 g1).load (P := prog) (t := 2) ag2 1 (v := .int .i64 x.2) rfl
      have hid1 : ((ds.set i (1, 1)).map hrRow)[i]? = some (hrRow (1, 1)) := by rw [List.getElem?_map, List.getElem?_set_self (by omega)]; rfl
      have hidl : i < ((ds.set i (1, 1)).map hrRow).length := by simp; omega
      have ix1 := fun N => hI1.od.idx (P := prog) un104 sz41 hidl N
      obtain ⟨M2, t1, t2, t3⟩ := hI1.od.storeF (P := prog) (t := 2) sz2 hid1 (j := 1) (by omega) (x := .int .i64 (domOf x).2) rfl rfl
      have r2 : (hrRow (1, 1)).set 1 (.int .i64 (domOf x).2) = hrRow (1, (domOf x).2) := rfl
      rw [r2, hr_set, List.set_set] at t2
      have hI2 : Inv45 M0 M2 b6 b8 d dv .nilSlice amb (ds.set i (1, (domOf x).2)) [] := by subst t3; exact hI1.dset f1 t2
      have f2 : M2.Fine := by rw [t3]; exact f1.set (f1 _ _ hI1.od.2.1) _
      have g2 : Gr M0 M2 := by rw [t3]; exact g1.set hI.ld _
      have ld2 := (ob_el (n := 3) hI2.o8 rfl).load (P := prog) (t := 104) ag104 0 (v := dv) rfl
      have x2 := (hq2.ext hf0 g2).load (P := prog) (t := 2) ag2 0 (v := .int .i64 x.1) rfl
      have hid2 : ((ds.set i (1, (domOf x).2)).map hrRow)[i]? = some (hrRow (1, (domOf x).2)) := by rw [List.getElem?_map, List.getElem?_set_self (by omega)]; rfl
      have hidl2 : i < ((ds.set i (1, (domOf x).2)).map hrRow).length := by simp; omega
      have ix2 := fun N => hI2.od.idx (P := prog) un104 sz41 hidl2 N
      have y2 := (hI2.od.el hid2).load (P := prog) (t := 2) ag2 1 (v := .int .i64 (domOf x).2) rfl
      obtain ⟨M3, u1, u2, u3⟩ := hI2.od.storeF (P := prog) (t := 2) sz2 hid2 (j := 0) (by omega) (x := .int .i64 (domOf x).1) rfl rfl
      have r3 : (hrRow (1, (domOf x).2)).set 0 (.int .i64 (domOf x).1) = hrRow (domOf x) := rfl
      rw [r3, hr_set, List.set_set] at u2
      have hI3 : Inv45 M0 M3 b6 b8 d dv .nilSlice amb (ds.set i (domOf x)) [] := by subst u3; exact hI2.dset f2 u2
      have f3 : M3.Fine := by rw [u3]; exact f2.set (f2 _ _ hI2.od.2.1) _
      have g3 : Gr M0 M3 := by rw [u3]; exact g2.set hI.ld _
      simp only [List.length_map, List.length_set, hd] at ix1 ix2 t1 u1 y2
      have dA : IntKind.i64.wrap (1 + IntKind.i64.wrap ((IntKind.u64.wrap x.2).tmod 6)) = (domOf x).2 := rfl
      have dC : IntKind.i64.wrap ((domOf x).2 + IntKind.i64.wrap ((IntKind.u64.wrap x.1).tmod 8)) = (domOf x).1 := rfl
      simp +contextual (maxSteps := 5000000) only [fput_some, Nat.reduceEqDiff, if_false, if_true, g0, g6, g7, g8, g9, stepK_ok, onOpK_val, fa124_0, ld0, bR41, ix, s1, hlen, bin_lss, hc, condK_true, ld1, hq1, fa41_0, fa41_1, x1, conv_int un2 un24, conv_int un24 un2, bin_rem (show (6 : Int) ≠ 0 by decide), bin_rem (show (8 : Int) ≠ 0 by decide), bin_add, dA, dC, ix1, t1, onStillK_true, ld2, ix2, y2, x2, u1]
      rw [J45_7_eq]
      simp only [fput_some, Nat.reduceEqDiff, if_false, if_true, g9, stepK_ok, onOpK_val, bin_add, hw]
      have key := fun E x0 x6 x7 x8 x9 => ih (i + 1) (ds.set i (domOf x)) E M3 (by omega) (by simpa using hd) f3 g3 hI3 x0 x6 x7 x8 x9
      have e1 : (ds.set i (domOf x)).take (i + 1) ++ (if hs = [] then List.replicate k ((1 : Int), (1 : Int)) else ((hs.drop (i + 1)).take k).map domOf) = ds.take i ++ (if hs = [] then List.replicate (k + 1) (1, 1) else ((hs.drop i).take (k + 1)).map domOf) := by
        have hdr : hs.drop i = x :: hs.drop (i + 1) := by rw [List.drop_eq_getElem_cons hil, (List.getElem?_eq_some_iff.mp hx).2]
        rw [if_neg he, if_neg he, hdr, List.take_succ_cons, List.map_cons, List.take_add_one, List.take_set_of_le (Nat.le_refl _), List.getElem?_set_self (by omega)]; simp
      rw [e1] at key
      refine Exists.imp (fun e' h => Exists.imp (fun M' h => ⟨h.1, h.2.1, h.2.2.1, h.2.2.2.1, h.2.2.2.2.1, h.2.2.2.2.2.1.trans ?_, h.2.2.2.2.2.2.1.trans ?_, h.2.2.2.2.2.2.2.1.trans ?_, h.2.2.2.2.2.2.2.2.trans ?_⟩) h) (key _ ?_ ?_ ?_ ?_ ?_) <;> simp only [fput_some, Nat.reduceEqDiff, if_false, if_true, g0, g6, g7, g8]
end Go.Proofs.Tryz.W
namespace Go.Proofs.Tryz.W
attribute [local congr] stepK_cg onOpK_cg callK_cg condK_cg onStillK_cg

def S45 (e e' : FEnv) : Prop := e' 0 = e 0 ∧ e' 1 = e 1 ∧ e' 6 = e 6 ∧ e' 7 = e 7 ∧ e' 8 = e 8 ∧ e' 10 = e 10 ∧ e' 11 = e 11
theorem w45c (C : Caller) {M0 : Mem} {b6 b8 d : Nat} {dv lv : AVal} {amb : Int} {ds : List Hr} {ls : List Lk} {l : Lk} {bl : AAddr} (hl : ls.length ≤ 1000) : ∀ (k i : Nat) (ok : Bool) (e : FEnv) (M : Mem), i + k = ls.length → M.Fine → Inv45 M0 M b6 b8 d dv lv amb ds ls → El M bl (lkRow l) → e 8 = .ptr ⟨b8, 0, 0, 3⟩ → e 11 = .ptr bl → e 12 = .bool ok → e 13 = .int .i64 (i : Int) →
    ∃ e' M', W45_10 C e M = J45_9 C e' M' ∧ Gr M M' ∧ M'.Fine ∧ e' 12 = .bool (ok && !(ls.drop i).any (fun x => conn x l)) ∧ S45 e e' := by
  intro k
  induction k with
  | zero =>
    intro i ok e M hi hf hI hb g8 g11 g12 g13
    have : i = ls.length := by omega
    subst this
    have m1 := (ob_el (n := 3) hI.o8 rfl).load (P := prog) (t := 23) ag23 1 (v := lv) rfl
    have hlen := hI.ol.sl.len un23 M
    simp only [List.length_map] at hlen
    rw [W45_10_eq]
    simp +contextual only [fput_some, Nat.reduceEqDiff, if_false, if_true, g8, g13, stepK_ok, onOpK_val, fa124_1, m1, hlen, bin_lss, Int.lt_irrefl, decide_false, condK_false]
    refine ⟨_, M, rfl, Gr.refl M, hf, ?_, ?_⟩
    · simp only [fput_some, Nat.reduceEqDiff, if_false, g12, List.drop_length, List.any_nil, Bool.not_false, Bool.and_true]
    · simp only [S45, fput_some, Nat.reduceEqDiff, if_false, and_self, g8]
  | succ k ih =>
    intro i ok e M hi hf hI hb g8 g11 g12 g13
    have hil : i < ls.length := by omega
    obtain ⟨x, hx⟩ : ∃ x, ls[i]? = some x := ⟨ls[i], List.getElem?_eq_getElem hil⟩
    have hdr : ls.drop i = x :: ls.drop (i + 1) := by rw [List.drop_eq_getElem_cons hil, (List.getElem?_eq_some_iff.mp hx).2]
    have m1 := (ob_el (n := 3) hI.o8 rfl).load (P := prog) (t := 23) ag23 1 (v := lv) rfl
    have hlen := hI.ol.sl.len un23 M
    simp only [List.length_map] at hlen
    have hlt : decide ((i : Int) < (ls.length : Int)) = true := by simp; omega
    have hw : IntKind.i64.wrap ((i : Int) + 1) = ((i + 1 : Nat) : Int) := by rw [wrap_i64 (by omega) (by omega)]; simp
    obtain ⟨q, hq1, hq2, _⟩ := hI.ol.sl.idxA (P := prog) un23 sz210 (i := i) (r := lkRow x) (by rw [List.getElem?_map, hx]; rfl)
    have l0 := hq2.loadAgg (P := prog) ag210 sz210
    obtain ⟨M1, M2, b1, b2, b3, b4, b5, _, _⟩ := box_agg (P := prog) (M := M) (t := 210) (vs := lkRow x) z210s z210l sz210 rfl (by omega) hf
    have x1 := b5.load (P := prog) (t := 3) ag3 0 (v := .int .i64 x.1) rfl
    have x2 := b5.load (P := prog) (t := 3) ag3 1 (v := .int .i64 x.2.1) rfl
    have hb2 := hb.ext hf b3
    have y1 := hb2.load (P := prog) (t := 3) ag3 0 (v := .int .i64 l.1) rfl
    have y2 := hb2.load (P := prog) (t := 3) ag3 1 (v := .int .i64 l.2.1) rfl
    have fin : ∀ E : FEnv, E 8 = .ptr ⟨b8, 0, 0, 3⟩ → E 11 = .ptr bl → E 12 = .bool (ok && !conn x l) → E 13 = .int .i64 (i : Int) → S45 e E → ∃ e' M', J45_12 C E M2 = J45_9 C e' M' ∧ Gr M M' ∧ M'.Fine ∧ e' 12 = .bool (ok && !(ls.drop i).any (fun x => conn x l)) ∧ S45 e e' := by
      intro E x8 x11 x12 x13 hS
      rw [J45_12_eq]
      simp only [x13, stepK_ok, onOpK_val, bin_add, hw]
      rw [hdr, List.any_cons]
      have hbb : (ok && !(conn x l || (ls.drop (i + 1)).any (fun x => conn x l))) = ((ok && !conn x l) && !(ls.drop (i + 1)).any (fun x => conn x l)) := by
        cases ok <;> cases conn x l <;> simp
      rw [hbb]
      have key := fun E' x8 x11 x12 x13 => ih (i + 1) (ok && !conn x l) E' M2 (by omega) b4 (hI.ext hf b3) hb2 x8 x11 x12 x13
      refine Exists.imp (fun e' h => Exists.imp (fun M' h => ⟨h.1, b3.trans h.2.1, h.2.2.1, h.2.2.2.1, ?_⟩) h) (key _ ?_ ?_ ?_ ?_)
      all_goals first
        | (simp only [fput_some, Nat.reduceEqDiff, if_false, if_true, x8, x11, x12]; done)
        | (obtain ⟨_, _, _, _, s0, s1, s6, s7, s8, s10, s11⟩ := h
           simp only [fput_some, Nat.reduceEqDiff, if_false] at s0 s1 s6 s7 s8 s10 s11
           obtain ⟨r0, r1, r6, r7, r8, r10, r11⟩ := hS
           exact ⟨s0.trans r0, s1.trans r1, s6.trans r6, s7.trans r7, s8.trans r8, s10.trans r10, s11.trans r11⟩)
    rw [W45_10_eq]
    simp +contextual only [fput_some, Nat.reduceEqDiff, if_false, if_true, g8, g13, stepK_ok, onOpK_val, fa124_1, m1, hlen, bin_lss, hlt, condK_true]
    rw [J45_11_eq]
    cases ok with
    | false =>
      simp +contextual only [fput_some, Nat.reduceEqDiff, if_false, if_true, g8, g11, g12, g13, stepK_ok, onOpK_val, fa124_1, m1, hq1, l0, b1, b2, wantT, wantF, wantS, stepK_no, pick_b, cond_false]
      refine fin _ ?_ ?_ ?_ ?_ ?_
      all_goals first | (simp only [S45, fput_some, Nat.reduceEqDiff, if_false, if_true, g8, g11, g12, g13, and_self, Bool.false_and]; done)
    | true =>
      simp +contextual only [fput_some, Nat.reduceEqDiff, if_false, if_true, g8, g11, g12, g13, stepK_ok, onOpK_val, fa124_1, m1, hq1, l0, b1, b2, fa210_0, fa210_1, x1, x2, y1, y2, bin_eql, wantT, wantF, wantS, wantFc, wantTc, sel_t, sel_f, stepK_no, step_or, step_and, stepK_val, pick_b, sel_or, sel_and, cond_true, sel_oa, un_not, ofOpt_some]
      have hc : ((x.1 == l.1 && x.2.1 == l.2.1) || (x.1 == l.2.1 && x.2.1 == l.1)) = conn x l := rfl
      rw [hc]
      refine fin _ ?_ ?_ ?_ ?_ ?_
      all_goals first | (simp only [S45, fput_some, Nat.reduceEqDiff, if_false, if_true, g8, g11, g12, g13, and_self, Bool.true_and]; done)

def lkOf (n : Nat) (y : Lk) : Lk := (modv y.1 n, modv y.2.1 n, IntKind.i64.wrap (1 + IntKind.i64.wrap ((IntKind.u64.wrap y.2.2).tmod 5)))
def addC (ds : List Hr) (i c : Int) : List Hr := ds.set i.toNat (IntKind.i64.wrap ((ds.getD i.toNat (0, 0)).1 + c), (ds.getD i.toNat (0, 0)).2)
def lkStep (n : Nat) (s : List Hr × List Lk) (y : Lk) : List Hr × List Lk :=
  if ((lkOf n y).1 != (lkOf n y).2.1 && !s.2.any (fun x => conn x (lkOf n y))) = true then (addC (addC s.1 (lkOf n y).1 (lkOf n y).2.2) (lkOf n y).2.1 (lkOf n y).2.2, s.2 ++ [lkOf n y]) else s
theorem addC_len (ds : List Hr) (i c : Int) : (addC ds i c).length = ds.length := List.length_set
theorem bR210 (a b c : Int) (M : Mem) : evBuildR prog M 210 [(0, .int .i64 a), (1, .int .i64 b), (2, .int .i64 c)] = .val (.agg (lkRow (a, b, c))) M := by
  rw [build_eq zr210 pl210]; simp [fillV, listAt, overlay, evAgg, solid_int, cells_int, lkRow]
theorem fit210 {n : Nat} (h : n ≤ 1000000) : fits prog 210 n = true := fits_of by210 (by omega) (m := 1000000) (by omega) h

/-- One domain's capacity grows. -/
theorem Inv45.add {M0 M : Mem} {b6 b8 d : Nat} {dv lv : AVal} {amb : Int} {ds : List Hr} {ls : List Lk} (h : Inv45 M0 M b6 b8 d dv lv amb ds ls) (hf : M.Fine) (hg : Gr M0 M) {i : Nat} (hi : i < ds.length) (c : Int) :
    ∃ M', (∀ N, evIndexAddr prog N 104 dv (.int .i64 (i : Int)) = .val (.ptr ⟨d, i * 2, 0, ds.length * 2⟩) N) ∧ evLoad prog M 2 (.ptr ⟨d, i * 2 + 0, 0, ds.length * 2⟩) = .val (.int .i64 (ds.getD i (0, 0)).1) M ∧
      evStore prog M 2 (.ptr ⟨d, i * 2 + 0, 0, ds.length * 2⟩) (.int .i64 (IntKind.i64.wrap ((ds.getD i (0, 0)).1 + c))) = .val (.tuple []) M' ∧ Inv45 M0 M' b6 b8 d dv lv amb (addC ds (i : Int) c) ls ∧ M'.Fine ∧ Gr M0 M' ∧ FrS (· = d) M M' := by
  have hid : i < (ds.map hrRow).length := by rw [List.length_map]; exact hi
  have hg0 : ds[i]? = some (ds.getD i (0, 0)) := by rw [List.getD_eq_getElem?_getD, List.getElem?_eq_getElem hi]; rfl
  have hr : (ds.map hrRow)[i]? = some (hrRow (ds.getD i (0, 0))) := by rw [List.getElem?_map, hg0]; rfl
  have ix := fun N => h.od.idx (P := prog) un104 sz41 hid N
  have y2 := (h.od.el hr).load (P := prog) (t := 2) ag2 0 (v := .int .i64 (ds.getD i (0, 0)).1) rfl
  obtain ⟨M', u1, u2, u3⟩ := h.od.storeF (P := prog) (t := 2) sz2 hr (j := 0) (by omega) (x := .int .i64 (IntKind.i64.wrap ((ds.getD i (0, 0)).1 + c))) rfl rfl
  have r3 : (hrRow (ds.getD i (0, 0))).set 0 (.int .i64 (IntKind.i64.wrap ((ds.getD i (0, 0)).1 + c))) = hrRow (IntKind.i64.wrap ((ds.getD i (0, 0)).1 + c), (ds.getD i (0, 0)).2) := rfl
  rw [r3, hr_set] at u2
  simp only [List.length_map] at ix y2 u1
  have e1 : ds.set i (IntKind.i64.wrap ((ds.getD i (0, 0)).1 + c), (ds.getD i (0, 0)).2) = addC ds (i : Int) c := rfl
  rw [e1] at u2
  refine ⟨M', ix, y2, u1, by subst u3; exact h.dset hf u2, by rw [u3]; exact hf.set (hf _ _ h.od.2.1) _, by rw [u3]; exact hg.set h.ld _, by rw [u3]; exact FrS.set (S := (· = d)) (id := d) FrS.refl (.inr rfl) _⟩
end Go.Proofs.Tryz.W
namespace Go.Proofs.Tryz.W
attribute [local congr] stepK_cg onOpK_cg callK_cg condK_cg onStillK_cg

/-- A link is appended. -/
theorem Inv45.push {M0 M : Mem} {b6 b8 d : Nat} {dv lv : AVal} {amb : Int} {ds : List Hr} {ls : List Lk} (h : Inv45 M0 M b6 b8 d dv lv amb ds ls) (hf : M.Fine) (hg : Gr M0 M) (l : Lk) (hl : ls.length ≤ 1000) :
    ∃ u lv' Ma Mb Mc, evBuildSliceR prog M 23 1 [(0, .agg (lkRow l))] = .val u Ma ∧ Go.VE.builtin prog Ma .append #[23, 23] [lv, u] = .val lv' Mb ∧ evStore prog Mb 23 (.ptr ⟨b8, 0 + 1, 0, 3⟩) lv' = .val (.tuple []) Mc ∧ Inv45 M0 Mc b6 b8 d dv lv' amb ds (ls ++ [l]) ∧ Mc.Fine ∧ Gr M0 Mc ∧ FrS (fun i => i = b8 ∨ blk lv i) M Mc := by
  obtain ⟨u, Ma, c1, c2, c3, c4, c5⟩ := row1R (P := prog) (M := M) (t := 23) (x := .agg (lkRow l)) un23 zc210 rfl rfl (by omega) hf
  have n1 := c2.sl.news
  rw [show ([AVal.agg (lkRow l) |>.cells] : List (List AVal)).flatten = lkRow l by simp [AVal.cells]] at n1
  have ha := h.ext hf c3
  obtain ⟨lv', Mb, p1, p2, p3, p4, p5⟩ := ha.ol.push c4 (Nat.le_trans hg.next c3.next) un23 zc210 (by omega) n1 rfl (fit210 (by simp; omega)) (fit210 (by omega))
  have L1 := hf _ _ h.o6; have L2 := hf _ _ h.o8; have L3 := hf _ _ h.od.2.1; have L4 := c3.next
  have o6 := p3.get c4 ha.o6 (fun hb => (h.nl _ hb).1 rfl)
  have o8 := p3.get c4 ha.o8 (fun hb => (h.nl _ hb).2.1 rfl)
  have od := ha.od.frs c4 p3 (fun hb => (h.nl _ hb).2.2 rfl)
  have st := ob_store (P := prog) (n := 3) (i := 1) (t := 23) (x := lv') o8 rfl sz23 (by omega) p2.1.plain.1 p2.1.plain.2
  have hrow : ([dv, lv, AVal.int .i64 amb] : List AVal).set 1 lv' = [dv, lv', .int .i64 amb] := rfl
  rw [hrow] at st
  have nl' : ∀ i, blk lv' i → i ≠ b6 ∧ i ≠ b8 ∧ i ≠ d := fun i hi => by
    rcases p5 i hi with h1 | h1
    · exact h.nl i h1
    · exact ⟨by omega, by omega, by omega⟩
  have fr : FrS (· = b8) Mb (Mb.set b8 (.cells [dv, lv', .int .i64 amb] 0 0)) := FrS.set (S := (· = b8)) (id := b8) FrS.refl (.inr rfl) _
  have g1 : Gr M0 (Mb.set b8 (.cells [dv, lv', .int .i64 amb] 0 0)) := (((FrS.of (S := fun i => M0.next ≤ i) (hg.trans c3)).cat p3 (fun i _ hi => ha.ol.2.1 i hi)).set (.inr h.l8) _).gr (fun i hi h => by omega)
  refine ⟨u, lv', Ma, Mb, _, c1, p1, st, ⟨h.l6, h.l8, h.ld, h.n1, h.n2, h.n3, fr.get p4 o6 h.n1, by rw [Mem.get_set, if_pos rfl], od.frs p4 fr (fun e => h.n3 e.symm), ⟨?_, p2.2.1, ?_⟩, nl', fun h => absurd h (by simp)⟩, p4.set (p4 _ _ o8) _, g1, ((FrS.of c3).cat p3 (fun i _ hi => .inr hi)).set (.inr (.inl rfl)) _⟩
  · have := p2.1.frs p4 fr (fun i hi => (nl' i hi).2.1)
    rw [List.map_append]; exact this
  · rw [List.map_append]; exact p2.2.2

theorem w45b (C : Caller) (h14 : K14 C) {M0 : Mem} (hf0 : M0.Fine) {w : AVal} {b6 b8 d : Nat} {dv : AVal} {amb : Int} {n : Nat} (hn0 : 0 < n) (hn : n ≤ 1000) : ∀ (suf pre : List Lk) (ds : List Hr) (ls : List Lk) (e : FEnv) (M : Mem) (lv : AVal), Lks M0 w (pre ++ suf) → M.Fine → Gr M0 M → Inv45 M0 M b6 b8 d dv lv amb ds ls → ds.length = n → ls.length ≤ pre.length → pre.length ≤ 12 → e 1 = w → e 6 = .ptr ⟨b6, 0, 0, 3⟩ → e 7 = .int .i64 (n : Int) → e 8 = .ptr ⟨b8, 0, 0, 3⟩ → e 10 = .int .i64 (pre.length : Int) → (pre ++ suf).length ≤ 1000000 →
    ∃ e' M' lv', W45_4 C e M = J45_3 C e' M' ∧ M'.Fine ∧ Gr M0 M' ∧ Inv45 M0 M' b6 b8 d dv lv' amb ((suf.take (12 - pre.length)).foldl (lkStep n) (ds, ls)).1 ((suf.take (12 - pre.length)).foldl (lkStep n) (ds, ls)).2 ∧ e' 6 = e 6 ∧ e' 8 = e 8 := by
  intro suf
  induction suf with
  | nil =>
    intro pre ds ls e M lv hP hf hg hI hd hlp h12 g1 g6 g7 g8 g10 hl
    have hlen := (hP.ext hf0 hg).len un23 M
    simp only [List.append_nil, List.length_map] at hlen
    rw [W45_4_eq]
    simp +contextual only [g1, g10, hlen, stepK_ok, onOpK_val, bin_lss, Int.lt_irrefl, decide_false, wantT, stepK_no, pick_b, cond_false, condK_false]
    refine ⟨_, M, lv, rfl, hf, hg, by simpa using hI, ?_, ?_⟩ <;> simp only [fput_some, Nat.reduceEqDiff, if_false]
  | cons y r ih =>
    intro pre ds ls e M lv hP hf hg hI hd hlp h12 g1 g6 g7 g8 g10 hl
    have hPM : Lks M w (pre ++ y :: r) := hP.ext hf0 hg
    have hlen := hPM.len un23 M
    simp only [List.length_map] at hlen
    have hlt : decide ((pre.length : Int) < ((pre ++ y :: r).length : Int)) = true := by simp; omega
    have hw : IntKind.i64.wrap ((pre.length : Int) + 1) = ((pre ++ [y]).length : Int) := by
      rw [wrap_i64 (by omega) (by simp at hl; omega)]; simp
    rw [W45_4_eq]
    simp +contextual only [g1, g10, hlen, stepK_ok, onOpK_val, bin_lss, hlt, wantT, pick_b, cond_true]
    by_cases h7 : pre.length < 12
    · have h7' : decide ((pre.length : Int) < 12) = true := by simp; omega
      rw [h7']
      simp only [condK_true]
      obtain ⟨q, hq1, hq2, _⟩ := hPM.idxA (P := prog) un23 sz210 (i := pre.length) (r := lkRow y) (by simp)
      have x0 := hq2.load (P := prog) (t := 3) ag3 0 (v := .int .i64 y.1) rfl
      have x1 := hq2.load (P := prog) (t := 3) ag3 1 (v := .int .i64 y.2.1) rfl
      have x2 := hq2.load (P := prog) (t := 2) ag2 2 (v := .int .i64 y.2.2) rfl
      obtain ⟨M1, M2, b1, b2, b3, b4, b5, _, _⟩ := box_agg (P := prog) (M := M) (t := 210) (vs := lkRow (lkOf n y)) z210s z210l sz210 rfl (by omega) hf
      have gM1 : Gr M M1 := by
        have e := b1; rw [evNew_one z210s] at e; simp only [OpR.val.injEq] at e; rw [← e.2]; exact Gr.alloc M _
      have hq3 := hq2.ext hf gM1
      have z1 := hq3.load (P := prog) (t := 3) ag3 1 (v := .int .i64 y.2.1) rfl
      have z2 := hq3.load (P := prog) (t := 2) ag2 2 (v := .int .i64 y.2.2) rfl
      have c1 := h14 y.1 n M1 (by omega) (by omega)
      have c2 := h14 y.2.1 n M1 (by omega) (by omega)
      have l1 := b5.load (P := prog) (t := 3) ag3 0 (v := .int .i64 (lkOf n y).1) rfl
      have l2 := b5.load (P := prog) (t := 3) ag3 1 (v := .int .i64 (lkOf n y).2.1) rfl
      have hrow : AVal.agg (lkRow (modv y.1 n, modv y.2.1 n, IntKind.i64.wrap (1 + IntKind.i64.wrap ((IntKind.u64.wrap y.2.2).tmod 5)))) = .agg (lkRow (lkOf n y)) := rfl
      have b2' : evStore prog M1 210 (.ptr ⟨M.next, 0, 0, 3⟩) (.agg (lkRow (lkOf n y))) = .val (.tuple []) M2 := b2
      have g2 := hg.trans b3
      have hI2 := hI.ext hf b3
      have tail : ∀ E : FEnv, E 1 = w → E 6 = .ptr ⟨b6, 0, 0, 3⟩ → E 7 = .int .i64 (n : Int) → E 8 = .ptr ⟨b8, 0, 0, 3⟩ → E 10 = .int .i64 (pre.length : Int) → E 11 = .ptr ⟨M.next, 0, 0, 3⟩ → E 12 = .bool ((lkOf n y).1 != (lkOf n y).2.1) → E 13 = .int .i64 ((0 : Nat) : Int) →
          ∃ e' M' lv', W45_10 C E M2 = J45_3 C e' M' ∧ M'.Fine ∧ Gr M0 M' ∧ Inv45 M0 M' b6 b8 d dv lv' amb (((y :: r).take (12 - pre.length)).foldl (lkStep n) (ds, ls)).1 (((y :: r).take (12 - pre.length)).foldl (lkStep n) (ds, ls)).2 ∧ e' 6 = .ptr ⟨b6, 0, 0, 3⟩ ∧ e' 8 = .ptr ⟨b8, 0, 0, 3⟩ := by
        intro E y1 y6 y7 y8 y10 y11 y12 y13
        obtain ⟨e3, M3, i1, i2, i3, i4, s0, s1, s6, s7, s8, s10, s11⟩ := w45c C (M0 := M0) (b6 := b6) (b8 := b8) (d := d) (dv := dv) (lv := lv) (amb := amb) (ds := ds) (ls := ls) (l := lkOf n y) (bl := ⟨M.next, 0, 0, 3⟩) (by omega) ls.length 0 ((lkOf n y).1 != (lkOf n y).2.1) E M2 (by omega) b4 hI2 b5 y8 y11 y12 y13
        rw [i1, J45_9_eq]
        rw [y1] at s1; rw [y6] at s6; rw [y7] at s7; rw [y8] at s8; rw [y10] at s10; rw [y11] at s11
        have htk : (y :: r).take (12 - pre.length) = y :: r.take (12 - (pre ++ [y]).length) := by
          rw [show 12 - pre.length = (12 - (pre ++ [y]).length) + 1 by simp; omega, List.take_succ_cons]
        rw [htk, List.foldl_cons]
        have hI3 := hI2.ext b4 i2
        have g3 := g2.trans i2
        rw [List.drop_zero] at i4
        have next : ∀ (ds' : List Hr) (ls' : List Lk) (E' : FEnv) (M' : Mem) (lv' : AVal), lkStep n (ds, ls) y = (ds', ls') → M'.Fine → Gr M0 M' → Inv45 M0 M' b6 b8 d dv lv' amb ds' ls' → ds'.length = n → ls'.length ≤ pre.length + 1 → E' 1 = w → E' 6 = .ptr ⟨b6, 0, 0, 3⟩ → E' 7 = .int .i64 (n : Int) → E' 8 = .ptr ⟨b8, 0, 0, 3⟩ → E' 10 = .int .i64 (pre.length : Int) →
            ∃ e' M'' lv'', J45_8 C E' M' = J45_3 C e' M'' ∧ M''.Fine ∧ Gr M0 M'' ∧ Inv45 M0 M'' b6 b8 d dv lv'' amb ((r.take (12 - (pre ++ [y]).length)).foldl (lkStep n) (lkStep n (ds, ls) y)).1 ((r.take (12 - (pre ++ [y]).length)).foldl (lkStep n) (lkStep n (ds, ls) y)).2 ∧ e' 6 = .ptr ⟨b6, 0, 0, 3⟩ ∧ e' 8 = .ptr ⟨b8, 0, 0, 3⟩ := by
          intro ds' ls' E' M' lv' hst f' g' I' d' l' z1 z6 z7 z8 z10
          rw [J45_8_eq, hst]
          simp only [z10, stepK_ok, onOpK_val, bin_add, hw]
          have key := fun E'' x1 x6 x7 x8 x10 => ih (pre ++ [y]) ds' ls' E'' M' lv' (by simpa using hP) f' g' I' d' (by simp; omega) (by simp; omega) x1 x6 x7 x8 x10 (by simpa using hl)
          refine Exists.imp (fun e' h => Exists.imp (fun M' h => Exists.imp (fun lv' h => ⟨h.1, h.2.1, h.2.2.1, h.2.2.2.1, h.2.2.2.2.1.trans ?_, h.2.2.2.2.2.trans ?_⟩) h) h) (key _ ?_ ?_ ?_ ?_ ?_) <;> simp only [fput_some, Nat.reduceEqDiff, if_false, if_true, z1, z6, z7, z8]
        cases hok : ((lkOf n y).1 != (lkOf n y).2.1 && !ls.any (fun x => conn x (lkOf n y))) with
        | false =>
          rw [hok] at i4
          simp only [i4, stepK_ok, onOpK_val, condK_false]
          refine next ds ls _ M3 lv (by unfold lkStep; rw [if_neg (by rw [hok]; exact Bool.false_ne_true)]) i3 g3 hI3 hd (by omega) ?_ ?_ ?_ ?_ ?_ <;> simp only [fput_some, Nat.reduceEqDiff, if_false, if_true, s1, s6, s7, s8, s10]
        | true =>
          rw [hok] at i4
          obtain ⟨ra0, ra1⟩ := modv_range y.1 (n := n) (by omega) (by omega)
          obtain ⟨rb0, rb1⟩ := modv_range y.2.1 (n := n) (by omega) (by omega)
          obtain ⟨na, hna⟩ := Int.eq_ofNat_of_zero_le ra0
          obtain ⟨nb, hnb⟩ := Int.eq_ofNat_of_zero_le rb0
          have hA : (lkOf n y).1 = (na : Int) := hna
          have hB : (lkOf n y).2.1 = (nb : Int) := hnb
          obtain ⟨u, lv', Ma, Mb, Mc, q1, q2, q3, q4, q5, q6, q7⟩ := hI3.push i3 g3 (lkOf n y) (by omega)
          obtain ⟨Md, ix1, y1', u1, q8, q9, q10, q11⟩ := q4.add q5 q6 (i := na) (by omega) (lkOf n y).2.2
          obtain ⟨Me, ix2, y2', u2, q12, q13, q14, q15⟩ := q8.add q9 q10 (i := nb) (by rw [addC_len]; omega) (lkOf n y).2.2
          rw [addC_len] at ix2 y2' u2
          have e5 := b5.ext b4 i2
          have m1 := (ob_el (n := 3) hI3.o8 rfl).load (P := prog) (t := 23) ag23 1 (v := lv) rfl
          have l5 := e5.loadAgg (P := prog) (t := 210) ag210 sz210
          have hMn : ¬ (M.next = b8 ∨ blk lv M.next) := fun h => by
            have k1 := hf _ _ hI.o8
            rcases h with h | h
            · omega
            · have := hI.ol.1.blk_lt hf h; omega
          have hMd : ¬ (M.next = d) := fun h => by have k1 := hf _ _ hI.od.2.1; omega
          have ec := e5.frs i3 q7 hMn
          have ed := ec.frs q5 q11 hMd
          have c0 := (ob_el (n := 3) q4.o8 rfl).load (P := prog) (t := 104) ag104 0 (v := dv) rfl
          have c1' := ec.load (P := prog) (t := 3) ag3 0 (v := .int .i64 (lkOf n y).1) rfl
          have c2' := ec.load (P := prog) (t := 2) ag2 2 (v := .int .i64 (lkOf n y).2.2) rfl
          have d0 := (ob_el (n := 3) q8.o8 rfl).load (P := prog) (t := 104) ag104 0 (v := dv) rfl
          have d1 := ed.load (P := prog) (t := 3) ag3 1 (v := .int .i64 (lkOf n y).2.1) rfl
          have d2 := ed.load (P := prog) (t := 2) ag2 2 (v := .int .i64 (lkOf n y).2.2) rfl
          rw [hA] at c1'; rw [hB] at d1
          simp only [hd] at ix1 y1' u1 ix2 y2' u2
          simp +contextual (maxSteps := 5000000) only [i4, condK_true, fput_some, Nat.reduceEqDiff, if_false, if_true, s8, s11, stepK_ok, onOpK_val, fa124_0, fa124_1, m1, l5, q1, q2, q3, c0, fa210_0, fa210_1, fa210_2, fa41_0, c1', c2', ix1, y1', bin_add, u1, onStillK_true, d0, d1, d2, ix2, y2', u2]
          have hst : lkStep n (ds, ls) y = (addC (addC ds (na : Int) (lkOf n y).2.2) (nb : Int) (lkOf n y).2.2, ls ++ [lkOf n y]) := by
            unfold lkStep; rw [if_pos (by exact hok)]
            simp only [hA, hB]
          refine next _ _ _ Me lv' hst q13 q14 q12 (by rw [addC_len, addC_len]; exact hd) (by simp; omega) ?_ ?_ ?_ ?_ ?_ <;> simp only [fput_some, Nat.reduceEqDiff, if_false, if_true, s1, s6, s7, s8, s10]
      rw [J45_6_eq]
      simp +contextual (maxSteps := 5000000) only [fput_some, Nat.reduceEqDiff, if_false, if_true, g1, g6, g7, g8, g10, stepK_ok, onOpK_val, hq1, fa210_0, fa210_1, fa210_2, x0, x1, x2, conv_int un2 un24, conv_int un24 un2, bin_rem (show (5 : Int) ≠ 0 by decide), bin_add, b1, onOpK_call, c1, callK_some, z1, z2, sv_int, Bool.and_true, onStillK_true, c2, bR210, hrow, b2', l1, l2, bin_neq]
      refine tail _ ?_ ?_ ?_ ?_ ?_ ?_ ?_ ?_ <;> simp only [fput_some, Nat.reduceEqDiff, if_false, if_true, g1, g6, g7, g8, g10] <;> rfl
    · have h8' : pre.length = 12 := by omega
      have h7' : decide ((pre.length : Int) < 12) = false := by simp; omega
      rw [h7']
      simp only [condK_false]
      refine ⟨_, M, lv, rfl, hf, hg, by simpa [h8'] using hI, ?_, ?_⟩ <;> simp only [fput_some, Nat.reduceEqDiff, if_false]
end Go.Proofs.Tryz.W
