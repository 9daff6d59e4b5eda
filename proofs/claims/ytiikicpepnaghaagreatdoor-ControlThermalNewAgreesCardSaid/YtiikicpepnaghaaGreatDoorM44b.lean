/-
  Part of a proof over this seat: see the last text.
-/
import Derived.Test.YtiikicpepnaghaaGreatDoorM44a
set_option linter.unusedSimpArgs false
set_option linter.unusedVariables false
open Go Go.VE
namespace Go.Proofs.Tryz.W
attribute [local congr] stepK_cg onOpK_cg callK_cg condK_cg onStillK_cg

theorem nck (M : Mem) (a : AAddr) : evNilCheck M (.ptr a) = .val (.ptr a) M := Eq.trans rfl rfl
theorem still_t (r : Res) : onStillK true r = r := Eq.trans rfl rfl
theorem by2 : Go.VE.bytes prog 2 = 8 := by kernel_rfl
theorem zc2 : zeroCells prog 2 = some (1, (zero prog 2).cells) := by kernel_rfl
theorem tip_plain {M0 M : Mem} {o : Nat} {v : AVal} {sz n : Nat} {cs : List AVal} (h : Tip M0 M o v sz n cs) : v.solid = true ∧ v.cells = [v] := by
  rcases h with ⟨rfl, _⟩ | ⟨id, ep, lo, rfl, _⟩ <;> exact ⟨rfl, rfl⟩
def heats (amb : Int) (l : List Hr) : List AVal := l.map fun y => .int .i64 (IntKind.i64.wrap (y.1 * amb))

theorem w39 (C : Caller) {M0 : Mem} (hf0 : M0.Fine) {v : AVal} (amb : Int) (o : Nat) (ho : M0.next ≤ o) (w0 w1 : AVal) : ∀ (suf pre : List Hr) (e : FEnv) (M : Mem) (s : AVal), Hrs M0 v (pre ++ suf) → M.Fine → Gr M0 M → o < M.next → M.get o = some (.cells [w0, w1, .int .i64 amb, s, .int .i64 0] 0 0) → Tip M0 M o s 1 pre.length (heats amb pre) →
    e 2 = .int .i64 amb → e 8 = .ptr ⟨o, 0, 0, 5⟩ → e 23 = v → e 24 = .int .i64 ((pre ++ suf).length : Int) → e 25 = .int .i64 (pre.length : Int) → (pre ++ suf).length ≤ 1000000 →
    ∃ M' s', W39_3 C e M = some (.tuple [.ptr ⟨o, 0, 0, 5⟩, .int .i64 0], M') ∧ Gr M0 M' ∧ M'.Fine ∧ M'.get o = some (.cells [w0, w1, .int .i64 amb, s', .int .i64 0] 0 0) ∧ Tip M0 M' o s' 1 (pre ++ suf).length (heats amb (pre ++ suf)) := by
  intro suf
  induction suf with
  | nil =>
    intro pre e M s hP hf hg hoM hob hT g2 g8 g23 g24 g25 hl
    rw [W39_3_eq]
    simp only [List.append_nil] at g24 ⊢
    simp only [g24, g25, stepK_ok, onOpK_val, bin_lss, Int.lt_irrefl, decide_false, condK_false]
    rw [J39_2_eq]
    simp only [fput_some, Nat.reduceEqDiff, if_false, g8, stepK_ok, onOpK_val]
    exact ⟨M, s, rfl, hg, hf, hob, hT⟩
  | cons y r ih =>
    intro pre e M s hP hf hg hoM hob hT g2 g8 g23 g24 g25 hl
    have hPM : Hrs M v (pre ++ y :: r) := hP.ext hf0 hg
    obtain ⟨q, hp1, hp2⟩ := hPM.idx un104 sz41 (i := pre.length) (r := hrRow y) (by simp) M
    have l0 := hp2.loadAgg (P := prog) ag41 sz41
    obtain ⟨M1, M2, b1, b2, b3, b4, b5, _, hn2⟩ := box_agg (P := prog) (M := M) (t := 41) (vs := hrRow y) z41s z41l sz41 rfl (by omega) hf
    have l1 := b5.load (P := prog) (t := 2) ag2 0 (v := .int .i64 y.1) rfl
    have ob2 : M2.get o = some (.cells [w0, w1, .int .i64 amb, s, .int .i64 0] 0 0) := (b3.same o hoM).trans hob
    have el2 : El M2 ⟨o, 0, 0, 5⟩ [w0, w1, .int .i64 amb, s, .int .i64 0] := ⟨_, 0, 0, ob2, Nat.le_refl _, Nat.le_refl _, rfl⟩
    have l2 := el2.load (P := prog) (t := 56) ag56 3 (v := s) rfl
    have r1 := row1 (P := prog) (M := M2) (x := .int .i64 (IntKind.i64.wrap (y.1 * amb))) un56 zc2 rfl rfl (by omega)
    have gr3 : Gr M2 (M2.alloc (.cells (AVal.int .i64 (IntKind.i64.wrap (y.1 * amb))).cells 0 0)) := Gr.alloc M2 _
    have f3 := b4.alloc (.cells (AVal.int .i64 (IntKind.i64.wrap (y.1 * amb))).cells 0 0)
    have T3 := (hT.ext hf b3).ext b4 gr3
    have n3 := row1_news (M := M2) (sz := 1) (x := .int .i64 (IntKind.i64.wrap (y.1 * amb))) rfl
    obtain ⟨s', M4, p1, p2, p3, p4, p5, p6⟩ := T3.push (P := prog) f3 (hg.trans (b3.trans gr3)) (Nat.lt_of_lt_of_le (Nat.lt_of_lt_of_le hoM b3.next) gr3.next) un56 zc2 (by omega) n3 rfl (fits_of by2 (by omega) (m := 1000001) (by omega) (by simp at hl; omega)) (fits_of by2 (by omega) (m := 1000001) (by omega) (by omega))
    have ob4 : M4.get o = some (.cells [w0, w1, .int .i64 amb, s, .int .i64 0] 0 0) := p5.trans ((gr3.same o (Nat.lt_of_lt_of_le hoM b3.next)).trans ob2)
    obtain ⟨q1, q2⟩ := tip_plain p2
    have st := store_one (P := prog) (M := M4) (t := 56) sz56 (a := ⟨o, 0 + 3, 0, 5⟩) ob4 rfl (by show 0 + 3 + 1 ≤ 5; omega) q1 q2 (by show 0 + 3 < 5; omega)
    have ho4 : o < M4.next := p4 o _ ob4
    have hlt : ((pre.length : Int) < ((pre ++ y :: r).length : Int)) := by simp; omega
    have hw : IntKind.i64.wrap ((pre.length : Int) + 1) = ((pre ++ [y]).length : Int) := by
      rw [wrap_i64 (by omega) (by simp at hl; omega)]; simp
    rw [W39_3_eq]
    simp only [g24, g25, stepK_ok, onOpK_val, bin_lss, decide_eq_true hlt, condK_true]
    rw [J39_4_eq]
    simp +contextual only [fput_some, Nat.reduceEqDiff, if_false, if_true, g2, g8, g23, g25, stepK_ok, onOpK_val, hp1, l0, b1, b2, nck, still_t, fa41_0, fa212_3, l1, l2, bin_mul, r1, p1, st]
    rw [J39_5_eq]
    simp only [fput_some, Nat.reduceEqDiff, if_false, if_true, g25, stepK_ok, onOpK_val, bin_add, hw]
    have hh : heats amb pre ++ (AVal.int .i64 (IntKind.i64.wrap (y.1 * amb))).cells = heats amb (pre ++ [y]) := by unfold heats; rw [List.map_append]; rfl
    rw [hh] at p2
    refine Exists.imp (fun M6 h => Exists.imp (fun s6 h => ⟨h.1, h.2.1, h.2.2.1, h.2.2.2.1, ?_⟩) h) (ih (pre ++ [y]) _ (M4.set o (ABlock.cells [w0, w1, AVal.int IntKind.i64 amb, s', .int .i64 0] 0 0)) s' (by simpa using hP) (p4.set ho4 _) (p3.set ho _) ho4 (by rw [Mem.get_set, if_pos rfl]) ?_ ?_ ?_ ?_ ?_ ?_ (by simpa using hl))
    · simpa using h.2.2.2.2
    · rw [List.length_append]; exact p2.set _
    · simp only [fput_some, Nat.reduceEqDiff, if_false]; exact g2
    · simp only [fput_some, Nat.reduceEqDiff, if_false]; exact g8
    · simp only [fput_some, Nat.reduceEqDiff, if_false]; exact g23
    · simp only [fput_some, Nat.reduceEqDiff, if_false]; simpa using g24
    · simp only [fput_some, if_true]
end Go.Proofs.Tryz.W
namespace Go.Proofs.Tryz.W
attribute [local congr] stepK_cg onOpK_cg callK_cg condK_cg onStillK_cg

theorem sl_form {M : Mem} {v : AVal} {sz : Nat} {rows : List (List AVal)} (h : Sl M v sz rows) : v = .nilSlice ∨ v = .emptySl ∨ ∃ a sz n cap ex, v = .slice a sz n cap ex := by
  rcases h with ⟨_, h | h⟩ | ⟨a, cap, ex, h, _⟩
  · exact .inl h
  · exact .inr (.inl h)
  · exact .inr (.inr ⟨a, sz, _, cap, ex, h⟩)
theorem bR_nn (amb : Int) (M : Mem) : evBuildR prog M 212 [(0, .nilSlice), (1, .nilSlice), (2, .int .i64 amb)] = .val (.agg [.nilSlice, .nilSlice, .int .i64 amb, .nilSlice, .int .i64 0]) M := by kernel_rfl
theorem bR_ne (amb : Int) (M : Mem) : evBuildR prog M 212 [(0, .nilSlice), (1, .emptySl), (2, .int .i64 amb)] = .val (.agg [.nilSlice, .emptySl, .int .i64 amb, .nilSlice, .int .i64 0]) M := by kernel_rfl
theorem bR_ns (a2 : AAddr) (sz2 n2 cap2 : Nat) (ex2 : Bool) (amb : Int) (M : Mem) : evBuildR prog M 212 [(0, .nilSlice), (1, (.slice a2 sz2 n2 cap2 ex2)), (2, .int .i64 amb)] = .val (.agg [.nilSlice, (.slice a2 sz2 n2 cap2 ex2), .int .i64 amb, .nilSlice, .int .i64 0]) M := by kernel_rfl
theorem bR_en (amb : Int) (M : Mem) : evBuildR prog M 212 [(0, .emptySl), (1, .nilSlice), (2, .int .i64 amb)] = .val (.agg [.emptySl, .nilSlice, .int .i64 amb, .nilSlice, .int .i64 0]) M := by kernel_rfl
theorem bR_ee (amb : Int) (M : Mem) : evBuildR prog M 212 [(0, .emptySl), (1, .emptySl), (2, .int .i64 amb)] = .val (.agg [.emptySl, .emptySl, .int .i64 amb, .nilSlice, .int .i64 0]) M := by kernel_rfl
theorem bR_es (a2 : AAddr) (sz2 n2 cap2 : Nat) (ex2 : Bool) (amb : Int) (M : Mem) : evBuildR prog M 212 [(0, .emptySl), (1, (.slice a2 sz2 n2 cap2 ex2)), (2, .int .i64 amb)] = .val (.agg [.emptySl, (.slice a2 sz2 n2 cap2 ex2), .int .i64 amb, .nilSlice, .int .i64 0]) M := by kernel_rfl
theorem bR_sn (a1 : AAddr) (sz1 n1 cap1 : Nat) (ex1 : Bool) (amb : Int) (M : Mem) : evBuildR prog M 212 [(0, (.slice a1 sz1 n1 cap1 ex1)), (1, .nilSlice), (2, .int .i64 amb)] = .val (.agg [(.slice a1 sz1 n1 cap1 ex1), .nilSlice, .int .i64 amb, .nilSlice, .int .i64 0]) M := by kernel_rfl
theorem bR_se (a1 : AAddr) (sz1 n1 cap1 : Nat) (ex1 : Bool) (amb : Int) (M : Mem) : evBuildR prog M 212 [(0, (.slice a1 sz1 n1 cap1 ex1)), (1, .emptySl), (2, .int .i64 amb)] = .val (.agg [(.slice a1 sz1 n1 cap1 ex1), .emptySl, .int .i64 amb, .nilSlice, .int .i64 0]) M := by kernel_rfl
theorem bR_ss (a1 : AAddr) (sz1 n1 cap1 : Nat) (ex1 : Bool) (a2 : AAddr) (sz2 n2 cap2 : Nat) (ex2 : Bool) (amb : Int) (M : Mem) : evBuildR prog M 212 [(0, (.slice a1 sz1 n1 cap1 ex1)), (1, (.slice a2 sz2 n2 cap2 ex2)), (2, .int .i64 amb)] = .val (.agg [(.slice a1 sz1 n1 cap1 ex1), (.slice a2 sz2 n2 cap2 ex2), .int .i64 amb, .nilSlice, .int .i64 0]) M := by kernel_rfl
theorem bR212 {M1 M2 M : Mem} {v w : AVal} {s1 s2 : Nat} {r1 r2 : List (List AVal)} (h1 : Sl M1 v s1 r1) (h2 : Sl M2 w s2 r2) (amb : Int) : evBuildR prog M 212 [(0, v), (1, w), (2, .int .i64 amb)] = .val (.agg [v, w, .int .i64 amb, .nilSlice, .int .i64 0]) M := by
  rcases sl_form h1 with h | h | ⟨a, sz, n, cap, ex, h⟩ <;> rcases sl_form h2 with h' | h' | ⟨a', sz', n', cap', ex', h'⟩ <;> rw [h, h']
  · exact bR_nn amb M
  · exact bR_ne amb M
  · exact bR_ns _ _ _ _ _ amb M
  · exact bR_en amb M
  · exact bR_ee amb M
  · exact bR_es _ _ _ _ _ amb M
  · exact bR_sn _ _ _ _ _ amb M
  · exact bR_se _ _ _ _ _ amb M
  · exact bR_ss _ _ _ _ _ _ _ _ _ _ amb M

def K81 (C : Caller) : Prop := ∀ (v : AVal) (l : List Hr) (M : Mem), M.Fine → Hrs M v l → l.length ≤ 1000000 → ∃ w M', C 81 [v] M = some (w, M') ∧ Hrs M' w l ∧ Gr M M' ∧ M'.Fine
def K82 (C : Caller) : Prop := ∀ (v : AVal) (l : List Lk) (M : Mem), M.Fine → Lks M v l → l.length ≤ 1000000 → ∃ w M', C 82 [v] M = some (w, M') ∧ Lks M' w l ∧ Gr M M' ∧ M'.Fine
theorem k81 {L : Lib} (h : L 81 = none) : K81 (callW prog L) := fun v l M hf hP hl => by rw [run81 h]; exact con81 _ hP hf hl
theorem k82 {L : Lib} (h : L 82 = none) : K82 (callW prog L) := fun v l M hf hP hl => by rw [run82 h]; exact con82 _ hP hf hl

/-- A heat store stands at o: its rows, its links, its ambient and its heats. -/
def Heat (M0 M : Mem) (o : Nat) (hs : List Hr) (ls : List Lk) (amb : Int) : Prop :=
  ∃ w0 w1 s, M.get o = some (.cells [w0, w1, .int .i64 amb, s, .int .i64 0] 0 0) ∧ Hrs M w0 hs ∧ Lks M w1 ls ∧ Tip M0 M o s 1 hs.length (heats amb hs) ∧ M0.next ≤ o

/-- heat.New -/
theorem con39 (C : Caller) (h80 : K80 C) (h81 : K81 C) (h82 : K82 C) {v w : AVal} {hs : List Hr} {ls : List Lk} {amb : Int} {M : Mem} (hP : Hrs M v hs) (hQ : Lks M w ls) (hf : M.Fine) (hh : hs.length ≤ 1000000) (hl : ls.length ≤ 1000000) :
    (validH hs ls amb = false ∧ ∃ M', J39_0 C (argsF [v, w, .int .i64 amb]) M = some (.tuple [.nilPtr, .int .i64 1], M') ∧ Gr M M' ∧ M'.Fine) ∨
    (validH hs ls amb = true ∧ ∃ M' o, J39_0 C (argsF [v, w, .int .i64 amb]) M = some (.tuple [.ptr ⟨o, 0, 0, 5⟩, .int .i64 0], M') ∧ Gr M M' ∧ M'.Fine ∧ M.next ≤ o ∧ ∃ M1 w0 w1 s, Gr M M1 ∧ M1.Fine ∧ Hrs M1 w0 hs ∧ Lks M1 w1 ls ∧ Gr M1 M' ∧ M1.next ≤ o ∧ M'.get o = some (.cells [w0, w1, .int .i64 amb, s, .int .i64 0] 0 0) ∧ Tip M1 M' o s 1 hs.length (heats amb hs)) := by
  have a0 : argsF [v, w, .int .i64 amb] 0 = v := rfl
  have a1 : argsF [v, w, .int .i64 amb] 1 = w := rfl
  have a2 : argsF [v, w, .int .i64 amb] 2 = .int .i64 amb := rfl
  obtain ⟨Ma, d1, d2, d3⟩ := h80 v w hs ls amb M hf hP hQ (by omega)
  rw [J39_0_eq]
  simp +contextual only [a0, a1, a2, stepK_ok, onOpK_val, onOpK_call, callK_some, d1, un_not, ofOpt_some]
  cases hv : validH hs ls amb with
  | false =>
    left
    simp only [Bool.not_false, condK_true, stepK_ok, onOpK_val]
    exact ⟨trivial, Ma, rfl, d2, d3⟩
  | true =>
    right
    simp only [Bool.not_true, condK_false]
    refine ⟨trivial, ?_⟩
    have hPa : Hrs Ma v hs := hP.ext hf d2
    have hQa : Lks Ma w ls := hQ.ext hf d2
    obtain ⟨w0, Mb, e1, e2, e3, e4⟩ := h81 v hs Ma d3 hPa hh
    obtain ⟨w1, Mc, g1, g2, g3, g4⟩ := h82 w ls Mb e4 (hQa.ext d3 e3) hl
    have e2c : Hrs Mc w0 hs := e2.ext e4 g3
    have n1 : evNew Mc (.agg [w0, w1, .int .i64 amb, .nilSlice, .int .i64 0]) = .val (.ptr ⟨Mc.next, 0, 0, 5⟩) (Mc.alloc (.cells [w0, w1, .int .i64 amb, .nilSlice, .int .i64 0] 0 0)) := evNew_one rfl
    have n2 : Gr Mc (Mc.alloc (.cells [w0, w1, .int .i64 amb, .nilSlice, .int .i64 0] 0 0)) := Gr.alloc Mc _
    have n3 := g4.alloc (.cells [w0, w1, .int .i64 amb, .nilSlice, .int .i64 0] 0 0)
    have hPc : Hrs Mc v hs := (hPa.ext d3 e3).ext e4 g3
    have hPd := hPc.ext g4 n2
    have hlen := hPd.len un104
    simp only [List.length_map] at hlen
    have bR := bR212 (M := Mc) e2c g2 amb
    rw [J39_1_eq]
    simp +contextual only [fput_some, Nat.reduceEqDiff, if_false, if_true, a0, a1, a2, stepK_ok, onOpK_val, onOpK_call, callK_some, e1, g1, bR, n1, hlen]
    have fin : ∀ E : FEnv, E 2 = .int .i64 amb → E 8 = .ptr ⟨Mc.next, 0, 0, 5⟩ → E 23 = v → E 24 = .int .i64 (hs.length : Int) → E 25 = .int .i64 0 → ∃ M' o, W39_3 C E (Mc.alloc (.cells [w0, w1, .int .i64 amb, .nilSlice, .int .i64 0] 0 0)) = some (.tuple [.ptr ⟨o, 0, 0, 5⟩, .int .i64 0], M') ∧ Gr M M' ∧ M'.Fine ∧ M.next ≤ o ∧ ∃ M1 w0 w1 s, Gr M M1 ∧ M1.Fine ∧ Hrs M1 w0 hs ∧ Lks M1 w1 ls ∧ Gr M1 M' ∧ M1.next ≤ o ∧ M'.get o = some (.cells [w0, w1, .int .i64 amb, s, .int .i64 0] 0 0) ∧ Tip M1 M' o s 1 hs.length (heats amb hs) := by
      intro E x2 x8 x23 x24 x25
      obtain ⟨M', s', y1, y2, y3, y4, y5⟩ := w39 C g4 (v := v) amb Mc.next (Nat.le_refl _) w0 w1 hs [] E _ .nilSlice hPc n3 n2 (Nat.lt_succ_self _) (by rw [Mem.get_alloc, if_pos rfl]) (.inl ⟨rfl, rfl, rfl⟩) x2 x8 x23 x24 x25 hh
      have gc : Gr M Mc := d2.trans (e3.trans g3)
      exact ⟨M', Mc.next, y1, gc.trans y2, y3, gc.next, Mc, w0, w1, s', gc, g4, e2c, g2, y2, Nat.le_refl _, y4, y5⟩
    refine fin _ ?_ ?_ ?_ ?_ ?_ <;> simp only [fput_some, Nat.reduceEqDiff, if_false, if_true, a2]
end Go.Proofs.Tryz.W
namespace Go.Proofs.Tryz.W
attribute [local congr] stepK_cg onOpK_cg callK_cg condK_cg onStillK_cg

theorem w43 (C : Caller) {M0 : Mem} (hf0 : M0.Fine) {v : AVal} (amb : Int) (o : Nat) (ho : M0.next ≤ o) (w0 w1 : AVal) : ∀ (suf pre : List Hr) (e : FEnv) (M : Mem) (s : AVal), Hrs M0 v (pre ++ suf) → M.Fine → Gr M0 M → o < M.next → M.get o = some (.cells [w0, w1, .int .i64 amb, s, .int .i64 0] 0 0) → Tip M0 M o s 1 pre.length (heats amb pre) →
    e 2 = .int .i64 amb → e 8 = .ptr ⟨o, 0, 0, 5⟩ → e 0 = v → e 9 = .int .i64 (pre.length : Int) → (pre ++ suf).length ≤ 1000000 →
    ∃ M' s', W43_3 C e M = some (.tuple [.ptr ⟨o, 0, 0, 5⟩, .int .i64 0], M') ∧ Gr M0 M' ∧ M'.Fine ∧ M'.get o = some (.cells [w0, w1, .int .i64 amb, s', .int .i64 0] 0 0) ∧ Tip M0 M' o s' 1 (pre ++ suf).length (heats amb (pre ++ suf)) := by
  intro suf
  induction suf with
  | nil =>
    intro pre e M s hP hf hg hoM hob hT g2 g8 g0 g9 hl
    rw [W43_3_eq]
    have hPM := (hP.ext hf0 hg).len un104
    simp only [List.append_nil, List.length_map] at hPM ⊢
    simp only [g0, g9, hPM, stepK_ok, onOpK_val, bin_lss, Int.lt_irrefl, decide_false, condK_false]
    rw [J43_2_eq]
    simp only [fput_some, Nat.reduceEqDiff, if_false, g8, stepK_ok, onOpK_val]
    exact ⟨M, s, rfl, hg, hf, hob, hT⟩
  | cons y r ih =>
    intro pre e M s hP hf hg hoM hob hT g2 g8 g0 g9 hl
    have hPM : Hrs M v (pre ++ y :: r) := hP.ext hf0 hg
    have hlen := hPM.len un104
    simp only [List.length_map] at hlen
    have ob2 := hob
    have el2 : El M ⟨o, 0, 0, 5⟩ [w0, w1, .int .i64 amb, s, .int .i64 0] := ⟨_, 0, 0, hob, Nat.le_refl _, Nat.le_refl _, rfl⟩
    have l2 := el2.load (P := prog) (t := 56) ag56 3 (v := s) rfl
    obtain ⟨q, hp1, hp2⟩ := hPM.idx un104 sz41 (i := pre.length) (r := hrRow y) (by simp) M
    have l1 := hp2.load (P := prog) (t := 2) ag2 0 (v := .int .i64 y.1) rfl
    have r1 := row1 (P := prog) (M := M) (x := .int .i64 (IntKind.i64.wrap (y.1 * amb))) un56 zc2 rfl rfl (by omega)
    have gr3 : Gr M (M.alloc (.cells (AVal.int .i64 (IntKind.i64.wrap (y.1 * amb))).cells 0 0)) := Gr.alloc M _
    have f3 := hf.alloc (.cells (AVal.int .i64 (IntKind.i64.wrap (y.1 * amb))).cells 0 0)
    have T3 := hT.ext hf gr3
    have n3 := row1_news (M := M) (sz := 1) (x := .int .i64 (IntKind.i64.wrap (y.1 * amb))) rfl
    obtain ⟨s', M4, p1, p2, p3, p4, p5, p6⟩ := T3.push (P := prog) f3 (hg.trans gr3) (Nat.lt_of_lt_of_le hoM gr3.next) un56 zc2 (by omega) n3 rfl (fits_of by2 (by omega) (m := 1000001) (by omega) (by simp at hl; omega)) (fits_of by2 (by omega) (m := 1000001) (by omega) (by omega))
    have ob4 : M4.get o = some (.cells [w0, w1, .int .i64 amb, s, .int .i64 0] 0 0) := p5.trans ((gr3.same o hoM).trans ob2)
    obtain ⟨q1, q2⟩ := tip_plain p2
    have st := store_one (P := prog) (M := M4) (t := 56) sz56 (a := ⟨o, 0 + 3, 0, 5⟩) ob4 rfl (by show 0 + 3 + 1 ≤ 5; omega) q1 q2 (by show 0 + 3 < 5; omega)
    have ho4 : o < M4.next := p4 o _ ob4
    have hlt : ((pre.length : Int) < ((pre ++ y :: r).length : Int)) := by simp; omega
    have hw : IntKind.i64.wrap ((pre.length : Int) + 1) = ((pre ++ [y]).length : Int) := by
      rw [wrap_i64 (by omega) (by simp at hl; omega)]; simp
    rw [W43_3_eq]
    simp only [g0, g9, hlen, stepK_ok, onOpK_val, bin_lss, decide_eq_true hlt, condK_true]
    rw [J43_4_eq]
    simp +contextual only [fput_some, Nat.reduceEqDiff, if_false, if_true, g2, g8, g0, g9, stepK_ok, onOpK_val, hp1, nck, still_t, fa41_0, fa221_3, l1, l2, bin_mul, r1, p1, st]
    rw [J43_5_eq]
    simp only [fput_some, Nat.reduceEqDiff, if_false, if_true, g9, stepK_ok, onOpK_val, bin_add, hw]
    have hh : heats amb pre ++ (AVal.int .i64 (IntKind.i64.wrap (y.1 * amb))).cells = heats amb (pre ++ [y]) := by unfold heats; rw [List.map_append]; rfl
    rw [hh] at p2
    refine Exists.imp (fun M6 h => Exists.imp (fun s6 h => ⟨h.1, h.2.1, h.2.2.1, h.2.2.2.1, ?_⟩) h) (ih (pre ++ [y]) _ (M4.set o (ABlock.cells [w0, w1, AVal.int IntKind.i64 amb, s', .int .i64 0] 0 0)) s' (by simpa using hP) (p4.set ho4 _) (p3.set ho _) ho4 (by rw [Mem.get_set, if_pos rfl]) ?_ ?_ ?_ ?_ ?_ (by simpa using hl))
    · simpa using h.2.2.2.2
    · rw [List.length_append]; exact p2.set _
    · simp only [fput_some, Nat.reduceEqDiff, if_false]; exact g2
    · simp only [fput_some, Nat.reduceEqDiff, if_false]; exact g8
    · simp only [fput_some, Nat.reduceEqDiff, if_false]; exact g0
    · simp only [fput_some, if_true]
end Go.Proofs.Tryz.W
namespace Go.Proofs.Tryz.W
attribute [local congr] stepK_cg onOpK_cg callK_cg condK_cg onStillK_cg

theorem bQ_nn (amb : Int) (M : Mem) : evBuildR prog M 221 [(0, .nilSlice), (1, .nilSlice), (2, .int .i64 amb)] = .val (.agg [.nilSlice, .nilSlice, .int .i64 amb, .nilSlice, .int .i64 0]) M := by kernel_rfl
theorem bQ_ne (amb : Int) (M : Mem) : evBuildR prog M 221 [(0, .nilSlice), (1, .emptySl), (2, .int .i64 amb)] = .val (.agg [.nilSlice, .emptySl, .int .i64 amb, .nilSlice, .int .i64 0]) M := by kernel_rfl
theorem bQ_ns (a2 : AAddr) (sz2 n2 cap2 : Nat) (ex2 : Bool) (amb : Int) (M : Mem) : evBuildR prog M 221 [(0, .nilSlice), (1, (.slice a2 sz2 n2 cap2 ex2)), (2, .int .i64 amb)] = .val (.agg [.nilSlice, (.slice a2 sz2 n2 cap2 ex2), .int .i64 amb, .nilSlice, .int .i64 0]) M := by kernel_rfl
theorem bQ_en (amb : Int) (M : Mem) : evBuildR prog M 221 [(0, .emptySl), (1, .nilSlice), (2, .int .i64 amb)] = .val (.agg [.emptySl, .nilSlice, .int .i64 amb, .nilSlice, .int .i64 0]) M := by kernel_rfl
theorem bQ_ee (amb : Int) (M : Mem) : evBuildR prog M 221 [(0, .emptySl), (1, .emptySl), (2, .int .i64 amb)] = .val (.agg [.emptySl, .emptySl, .int .i64 amb, .nilSlice, .int .i64 0]) M := by kernel_rfl
theorem bQ_es (a2 : AAddr) (sz2 n2 cap2 : Nat) (ex2 : Bool) (amb : Int) (M : Mem) : evBuildR prog M 221 [(0, .emptySl), (1, (.slice a2 sz2 n2 cap2 ex2)), (2, .int .i64 amb)] = .val (.agg [.emptySl, (.slice a2 sz2 n2 cap2 ex2), .int .i64 amb, .nilSlice, .int .i64 0]) M := by kernel_rfl
theorem bQ_sn (a1 : AAddr) (sz1 n1 cap1 : Nat) (ex1 : Bool) (amb : Int) (M : Mem) : evBuildR prog M 221 [(0, (.slice a1 sz1 n1 cap1 ex1)), (1, .nilSlice), (2, .int .i64 amb)] = .val (.agg [(.slice a1 sz1 n1 cap1 ex1), .nilSlice, .int .i64 amb, .nilSlice, .int .i64 0]) M := by kernel_rfl
theorem bQ_se (a1 : AAddr) (sz1 n1 cap1 : Nat) (ex1 : Bool) (amb : Int) (M : Mem) : evBuildR prog M 221 [(0, (.slice a1 sz1 n1 cap1 ex1)), (1, .emptySl), (2, .int .i64 amb)] = .val (.agg [(.slice a1 sz1 n1 cap1 ex1), .emptySl, .int .i64 amb, .nilSlice, .int .i64 0]) M := by kernel_rfl
theorem bQ_ss (a1 : AAddr) (sz1 n1 cap1 : Nat) (ex1 : Bool) (a2 : AAddr) (sz2 n2 cap2 : Nat) (ex2 : Bool) (amb : Int) (M : Mem) : evBuildR prog M 221 [(0, (.slice a1 sz1 n1 cap1 ex1)), (1, (.slice a2 sz2 n2 cap2 ex2)), (2, .int .i64 amb)] = .val (.agg [(.slice a1 sz1 n1 cap1 ex1), (.slice a2 sz2 n2 cap2 ex2), .int .i64 amb, .nilSlice, .int .i64 0]) M := by kernel_rfl
theorem bR221 {M1 M2 M : Mem} {v w : AVal} {s1 s2 : Nat} {r1 r2 : List (List AVal)} (h1 : Sl M1 v s1 r1) (h2 : Sl M2 w s2 r2) (amb : Int) : evBuildR prog M 221 [(0, v), (1, w), (2, .int .i64 amb)] = .val (.agg [v, w, .int .i64 amb, .nilSlice, .int .i64 0]) M := by
  rcases sl_form h1 with h | h | ⟨a, sz, n, cap, ex, h⟩ <;> rcases sl_form h2 with h' | h' | ⟨a', sz', n', cap', ex', h'⟩ <;> rw [h, h']
  · exact bQ_nn amb M
  · exact bQ_ne amb M
  · exact bQ_ns _ _ _ _ _ amb M
  · exact bQ_en amb M
  · exact bQ_ee amb M
  · exact bQ_es _ _ _ _ _ amb M
  · exact bQ_sn _ _ _ _ _ amb M
  · exact bQ_se _ _ _ _ _ amb M
  · exact bQ_ss _ _ _ _ _ _ _ _ _ _ amb M

/-- What the caller knows of ref38.valid: vr is what it answers. -/
def K85 (C : Caller) (vr : List Hr → List Lk → Int → Bool) : Prop := ∀ (v w : AVal) (hs : List Hr) (ls : List Lk) (amb : Int) (M : Mem), M.Fine → Hrs M v hs → Lks M w ls → ls.length ≤ 1000000 → ∃ M', C 85 [v, w, .int .i64 amb] M = some (.bool (vr hs ls amb), M') ∧ Gr M M' ∧ M'.Fine

/-- ref38.New -/
theorem con43 (C : Caller) {vr : List Hr → List Lk → Int → Bool} (h85 : K85 C vr) {v w : AVal} {hs : List Hr} {ls : List Lk} {amb : Int} {M : Mem} (hP : Hrs M v hs) (hQ : Lks M w ls) (hf : M.Fine) (hh : hs.length ≤ 1000000) (hl : ls.length ≤ 1000000) :
    (vr hs ls amb = false ∧ ∃ M', J43_0 C (argsF [v, w, .int .i64 amb]) M = some (.tuple [.nilPtr, .int .i64 1], M') ∧ Gr M M' ∧ M'.Fine) ∨
    (vr hs ls amb = true ∧ ∃ M' o, J43_0 C (argsF [v, w, .int .i64 amb]) M = some (.tuple [.ptr ⟨o, 0, 0, 5⟩, .int .i64 0], M') ∧ Gr M M' ∧ M'.Fine ∧ M.next ≤ o ∧ ∃ M1 s, Gr M M1 ∧ M1.Fine ∧ Hrs M1 v hs ∧ Lks M1 w ls ∧ Gr M1 M' ∧ M1.next ≤ o ∧ M'.get o = some (.cells [v, w, .int .i64 amb, s, .int .i64 0] 0 0) ∧ Tip M1 M' o s 1 hs.length (heats amb hs)) := by
  have a0 : argsF [v, w, .int .i64 amb] 0 = v := rfl
  have a1 : argsF [v, w, .int .i64 amb] 1 = w := rfl
  have a2 : argsF [v, w, .int .i64 amb] 2 = .int .i64 amb := rfl
  obtain ⟨Ma, d1, d2, d3⟩ := h85 v w hs ls amb M hf hP hQ hl
  rw [J43_0_eq]
  simp +contextual only [a0, a1, a2, stepK_ok, onOpK_val, onOpK_call, callK_some, d1, un_not, ofOpt_some]
  cases hv : vr hs ls amb with
  | false =>
    left
    simp only [Bool.not_false, condK_true, stepK_ok, onOpK_val]
    exact ⟨trivial, Ma, rfl, d2, d3⟩
  | true =>
    right
    simp only [Bool.not_true, condK_false]
    refine ⟨trivial, ?_⟩
    have hPa : Hrs Ma v hs := hP.ext hf d2
    have hQa : Lks Ma w ls := hQ.ext hf d2
    have n1 : evNew Ma (.agg [v, w, .int .i64 amb, .nilSlice, .int .i64 0]) = .val (.ptr ⟨Ma.next, 0, 0, 5⟩) (Ma.alloc (.cells [v, w, .int .i64 amb, .nilSlice, .int .i64 0] 0 0)) := evNew_one rfl
    have n2 : Gr Ma (Ma.alloc (.cells [v, w, .int .i64 amb, .nilSlice, .int .i64 0] 0 0)) := Gr.alloc Ma _
    have n3 := d3.alloc (.cells [v, w, .int .i64 amb, .nilSlice, .int .i64 0] 0 0)
    have bR := bR221 (M := Ma) hPa hQa amb
    rw [J43_1_eq]
    simp +contextual only [fput_some, Nat.reduceEqDiff, if_false, if_true, a0, a1, a2, stepK_ok, onOpK_val, bR, n1]
    have fin : ∀ E : FEnv, E 2 = .int .i64 amb → E 8 = .ptr ⟨Ma.next, 0, 0, 5⟩ → E 0 = v → E 9 = .int .i64 0 → ∃ M' o, W43_3 C E (Ma.alloc (.cells [v, w, .int .i64 amb, .nilSlice, .int .i64 0] 0 0)) = some (.tuple [.ptr ⟨o, 0, 0, 5⟩, .int .i64 0], M') ∧ Gr M M' ∧ M'.Fine ∧ M.next ≤ o ∧ ∃ M1 s, Gr M M1 ∧ M1.Fine ∧ Hrs M1 v hs ∧ Lks M1 w ls ∧ Gr M1 M' ∧ M1.next ≤ o ∧ M'.get o = some (.cells [v, w, .int .i64 amb, s, .int .i64 0] 0 0) ∧ Tip M1 M' o s 1 hs.length (heats amb hs) := by
      intro E x2 x8 x0 x9
      obtain ⟨M', s', y1, y2, y3, y4, y5⟩ := w43 C d3 (v := v) amb Ma.next (Nat.le_refl _) v w hs [] E _ .nilSlice hPa n3 n2 (Nat.lt_succ_self _) (by rw [Mem.get_alloc, if_pos rfl]) (.inl ⟨rfl, rfl, rfl⟩) x2 x8 x0 x9 hh
      exact ⟨M', Ma.next, y1, d2.trans y2, y3, d2.next, Ma, s', d2, d3, hPa, hQa, y2, Nat.le_refl _, y4, y5⟩
    refine fin _ ?_ ?_ ?_ ?_ <;> simp only [fput_some, Nat.reduceEqDiff, if_false, if_true, a0, a2]
end Go.Proofs.Tryz.W
namespace Go.Proofs.Tryz.W
attribute [local congr] stepK_cg onOpK_cg callK_cg condK_cg onStillK_cg

def ints (xs : List Int) : List AVal := xs.map (.int .i64)
/-- A slice of int64 that the call made, in a block of its own. -/
def Own (M : Mem) (v : AVal) (id : Nat) (xs : List Int) : Prop :=
  v = .slice ⟨id, 0, 0, xs.length⟩ 1 xs.length xs.length true ∧ M.get id = some (.cells (ints xs) 0 0)

theorem Own.idx {M : Mem} {v : AVal} {id : Nat} {xs : List Int} (h : Own M v id xs) {i : Nat} (hi : i < xs.length) (M' : Mem) : evIndexAddr prog M' 56 v (.int .i64 (i : Int)) = .val (.ptr ⟨id, 0 + i * 1, 0, xs.length⟩) M' := by
  obtain ⟨rfl, _⟩ := h
  have e1 : (Go.VE.elemOf prog 56).bind (size? prog) = some 1 := by kernel_rfl
  have e3 : Nat.blt i xs.length = true := by unfold Nat.blt; exact Nat.ble_eq_true_of_le hi
  unfold evIndexAddr
  simp only [e1, Nat.beq_refl, natIn_nat (q := .i64) (Nat.le_of_lt hi), e3]

theorem Own.load {M : Mem} {v : AVal} {id : Nat} {xs : List Int} (h : Own M v id xs) {i : Nat} {x : Int} (hi : xs[i]? = some x) : evLoad prog M 2 (.ptr ⟨id, 0 + i * 1, 0, xs.length⟩) = .val (.int .i64 x) M := by
  have hlt : i < xs.length := (List.getElem?_eq_some_iff.mp hi).1
  exact load_one (a := ⟨id, 0 + i * 1, 0, xs.length⟩) ag2 h.2 (Nat.le_refl _) (by show 0 + i * 1 + 1 ≤ xs.length; omega) (by show (ints xs)[0 + i * 1]? = _; rw [Nat.zero_add, Nat.mul_one]; unfold ints; rw [List.getElem?_map, hi]; rfl)

theorem Own.store {M : Mem} {v : AVal} {id : Nat} {xs : List Int} (h : Own M v id xs) {i : Nat} (hi : i < xs.length) (x : Int) :
    ∃ M', evStore prog M 2 (.ptr ⟨id, 0 + i * 1, 0, xs.length⟩) (.int .i64 x) = .val (.tuple []) M' ∧ Own M' v id (xs.set i x) ∧ M' = M.set id (.cells (ints (xs.set i x)) 0 0) := by
  have st := store_one (P := prog) (M := M) (t := 2) sz2 (a := ⟨id, 0 + i * 1, 0, xs.length⟩) h.2 rfl (by show 0 + i * 1 + 1 ≤ xs.length; omega) (v := .int .i64 x) rfl rfl (by show 0 + i * 1 < (ints xs).length; unfold ints; rw [List.length_map]; omega)
  have hs : (ints xs).set (0 + i * 1) (.int .i64 x) = ints (xs.set i x) := by
    rw [Nat.zero_add, Nat.mul_one]; unfold ints; rw [List.map_set]
  rw [hs] at st
  exact ⟨_, st, ⟨by rw [List.length_set]; exact h.1, by rw [Mem.get_set, if_pos rfl]⟩, rfl⟩
end Go.Proofs.Tryz.W
namespace Go.Proofs.Tryz.W
attribute [local congr] stepK_cg onOpK_cg callK_cg condK_cg onStillK_cg

theorem zeros_ints : ∀ n : Nat, repeatCells [AVal.int .i64 0] n = ints (List.replicate n 0) := by
  intro n
  induction n with
  | zero => rfl
  | succ n ih => unfold repeatCells; rw [ih, List.replicate_succ]; rfl

theorem Own.make {M : Mem} (hf : M.Fine) {n : Nat} (hn : n ≤ 1000) :
    ∃ v M', evMakeSlice prog M 56 (.int .i64 (n : Int)) (.int .i64 (n : Int)) = .val v M' ∧ Own M' v M.next (List.replicate n 0) ∧ Gr M M' ∧ M'.Fine ∧ M'.next = M.next + 1 := by
  have e1 : Go.VE.elemOf prog 56 = some 2 := by kernel_rfl
  have e2 : zeroCells prog 2 = some (1, [AVal.int .i64 0]) := by kernel_rfl
  have e3 : (Nat.ble n n && Nat.ble n (2 ^ 40) && Nat.ble (n * Go.VE.bytes prog 2) (2 ^ 40) && Nat.ble (n * 1) (2 ^ 20)) = true := by
    rw [by2, Nat.ble_eq_true_of_le (Nat.le_refl n), Nat.ble_eq_true_of_le (show n ≤ 2 ^ 40 by omega), Nat.ble_eq_true_of_le (show n * 8 ≤ 2 ^ 40 by omega), Nat.ble_eq_true_of_le (show n * 1 ≤ 2 ^ 20 by omega)]; rfl
  refine ⟨.slice ⟨M.next, 0, 0, n * 1⟩ 1 n n true, M.alloc (.cells (repeatCells [AVal.int .i64 0] n) 0 0), ?_, ⟨by rw [List.length_replicate, Nat.mul_one], by rw [Mem.get_alloc, if_pos rfl, zeros_ints]⟩, Gr.alloc M _, hf.alloc _, rfl⟩
  show evMakeSlice prog M 56 (.int .i64 (.ofNat n)) (.int .i64 (.ofNat n)) = _
  unfold evMakeSlice
  simp only [e1, e2, e3]
end Go.Proofs.Tryz.W
namespace Go.Proofs.Tryz.W
attribute [local congr] stepK_cg onOpK_cg callK_cg condK_cg onStillK_cg

def rooms (l : List Hr) : List Int := l.map fun y => IntKind.i64.wrap (y.1 - y.2)
def badR (y : Hr) : Bool := decide (y.2 < 1) || decide (y.1 > 16777216) || decide (y.1 < y.2)

theorem Own.ext {M M' : Mem} {v : AVal} {id : Nat} {xs : List Int} (h : Own M v id xs) (hf : M.Fine) (hg : Gr M M') : Own M' v id xs := ⟨h.1, hg.get hf h.2⟩

theorem w85 (C : Caller) {M0 : Mem} (hf0 : M0.Fine) {v rv : AVal} (rm : Nat) (ho : M0.next ≤ rm) : ∀ (suf pre : List Hr) (e : FEnv) (M : Mem), Hrs M0 v (pre ++ suf) → M.Fine → Gr M0 M → Own M rv rm (rooms pre ++ List.replicate suf.length 0) → e 0 = v → e 7 = rv → e 8 = .int .i64 (pre.length : Int) → (pre ++ suf).length ≤ 1000 →
    (suf.any badR = true ∧ ∃ M', W85_3 C e M = some (.bool false, M') ∧ Gr M0 M' ∧ M'.Fine) ∨
    (suf.any badR = false ∧ ∃ e' M', W85_3 C e M = J85_2 C e' M' ∧ Gr M0 M' ∧ M'.Fine ∧ Own M' rv rm (rooms (pre ++ suf)) ∧ e' 0 = v ∧ e' 1 = e 1 ∧ e' 7 = rv) := by
  intro suf
  induction suf with
  | nil =>
    intro pre e M hP hf hg hO g0 g7 g8 hl
    right
    have hlen := (hP.ext hf0 hg).len un104
    simp only [List.append_nil, List.length_map] at hlen
    rw [W85_3_eq]
    simp only [g0, g8, hlen, stepK_ok, onOpK_val, bin_lss, Int.lt_irrefl, decide_false, condK_false]
    refine ⟨rfl, _, M, rfl, hg, hf, by simpa using hO, ?_, ?_, ?_⟩ <;> simp only [fput_some, Nat.reduceEqDiff, if_false, g0, g7]
  | cons y r ih =>
    intro pre e M hP hf hg hO g0 g7 g8 hl
    have hPM : Hrs M v (pre ++ y :: r) := hP.ext hf0 hg
    have hlen := hPM.len un104
    simp only [List.length_map] at hlen
    obtain ⟨q, hp1, hp2⟩ := hPM.idx un104 sz41 (i := pre.length) (r := hrRow y) (by simp) M
    have l0 := hp2.loadAgg (P := prog) ag41 sz41
    obtain ⟨M1, M2, b1, b2, b3, b4, b5, _, hn2⟩ := box_agg (P := prog) (M := M) (t := 41) (vs := hrRow y) z41s z41l sz41 rfl (by omega) hf
    have l1 := b5.load (P := prog) (t := 2) ag2 0 (v := .int .i64 y.1) rfl
    have l2 := b5.load (P := prog) (t := 2) ag2 1 (v := .int .i64 y.2) rfl
    have hO2 := hO.ext hf b3
    have hol : pre.length < (rooms pre ++ List.replicate (y :: r).length 0).length := by simp [rooms]
    have ix := hO2.idx hol
    obtain ⟨M3, s1, s2, s3⟩ := hO2.store hol (IntKind.i64.wrap (y.1 - y.2))
    have hset : (rooms pre ++ List.replicate (y :: r).length 0).set pre.length (IntKind.i64.wrap (y.1 - y.2)) = rooms (pre ++ [y]) ++ List.replicate r.length 0 := by
      have hp : pre.length = (rooms pre).length := by simp [rooms]
      rw [hp, List.set_append_right _ _ (Nat.le_refl _), Nat.sub_self, List.length_cons, List.replicate_succ, List.set_cons_zero]
      simp [rooms]
    rw [hset] at s2
    have hlt : ((pre.length : Int) < ((pre ++ y :: r).length : Int)) := by simp; omega
    have hw : IntKind.i64.wrap ((pre.length : Int) + 1) = ((pre ++ [y]).length : Int) := by
      rw [wrap_i64 (by omega) (by simp at hl; omega)]; simp
    rw [W85_3_eq]
    simp only [g0, g8, hlen, stepK_ok, onOpK_val, bin_lss, decide_eq_true hlt, condK_true]
    rw [J85_6_eq]
    simp +contextual only [fput_some, Nat.reduceEqDiff, if_false, if_true, g0, g7, g8, stepK_ok, onOpK_val, hp1, l0, b1, b2, fa41_0, fa41_1, l1, l2, bin_lss, bin_gtr, sel_t, sel_f, stepK_no, wantF, wantT, wantS, wantFc, wantTc, step_or, step_and, stepK_val, pick_b, sel_or, sel_and]
    have hb : (decide (y.2 < 1) || decide (y.1 > 16777216) || decide (y.1 < y.2)) = badR y := rfl
    rw [hb]
    cases hb1 : badR y with
    | true =>
      left
      simp only [condK_true]
      exact ⟨by rw [List.any_cons, hb1]; rfl, M2, rfl, hg.trans b3, b4⟩
    | false =>
      simp only [condK_false, List.any_cons, hb1, Bool.false_or]
      rw [J85_9_eq]
      simp +contextual only [fput_some, Nat.reduceEqDiff, if_false, if_true, g0, g7, g8, stepK_ok, onOpK_val, fa41_0, fa41_1, l1, l2, bin_sub, ix, s1]
      rw [J85_8_eq]
      simp only [fput_some, Nat.reduceEqDiff, if_false, if_true, g8, stepK_ok, onOpK_val, bin_add, hw]
      have hf3 : M3.Fine := by rw [s3]; exact b4.set (b4 rm _ hO2.2) _
      have hg3 : Gr M0 M3 := by rw [s3]; exact (hg.trans b3).set ho _
      have key := fun E x0 x7 x8 => ih (pre ++ [y]) E M3 (by simpa using hP) hf3 hg3 s2 x0 x7 x8 (by simpa using hl)
      rw [show pre ++ y :: r = (pre ++ [y]) ++ r by simp]
      refine Or.imp id (And.imp_right (Exists.imp fun e' h => Exists.imp (fun M' h => ⟨h.1, h.2.1, h.2.2.1, h.2.2.2.1, h.2.2.2.2.1, h.2.2.2.2.2.1.trans ?_, h.2.2.2.2.2.2⟩) h)) (key _ ?_ ?_ ?_)
      · simp only [fput_some, Nat.reduceEqDiff, if_false]; exact g0
      · simp only [fput_some, Nat.reduceEqDiff, if_false]; exact g7
      · simp only [fput_some, if_true]
      · simp only [fput_some, Nat.reduceEqDiff, if_false]
end Go.Proofs.Tryz.W
namespace Go.Proofs.Tryz.W

/-- A row of one struct is a slice of one row. -/
theorem row1_sl {M : Mem} {sz : Nat} {vs : List AVal} (hx : vs.length = sz) : Sl (M.alloc (.cells vs 0 0)) (.slice ⟨M.next, 0, 0, vs.length⟩ sz 1 1 true) sz [vs] :=
  .inr ⟨⟨M.next, 0, 0, vs.length⟩, 1, true, rfl, Nat.le_refl _, by intro r hr; rw [List.mem_singleton] at hr; rw [hr, hx], vs, 0, 0, by rw [Mem.get_alloc, if_pos rfl], Nat.le_refl _, by simp, by simp⟩

theorem row1_hr {M : Mem} (y : Hr) : ∃ u, evBuildSliceR prog M 104 1 [(0, .agg (hrRow y))] = .val u (M.alloc (.cells (hrRow y) 0 0)) ∧ Hrs (M.alloc (.cells (hrRow y) 0 0)) u [y] :=
  ⟨_, row1 (P := prog) (x := .agg (hrRow y)) un104 zc41 rfl rfl (by omega), row1_sl (M := M) (vs := hrRow y) rfl⟩
end Go.Proofs.Tryz.W
namespace Go.Proofs.Tryz.W
attribute [local congr] stepK_cg onOpK_cg callK_cg condK_cg onStillK_cg

/-- What heat.New answers, as far as Sustainable looks. -/
def K39 (C : Caller) : Prop := ∀ (v w : AVal) (hs : List Hr) (ls : List Lk) (amb : Int) (M : Mem), M.Fine → Hrs M v hs → Lks M w ls → hs.length ≤ 1000000 → ls.length ≤ 1000000 → ∃ p M', C 39 [v, w, .int .i64 amb] M = some (.tuple [p, .int .i64 (if validH hs ls amb = true then 0 else 1)], M') ∧ Gr M M' ∧ M'.Fine
theorem k39 {L : Lib} (h : L 39 = none) (h80 : K80 (callW prog L)) (h81 : K81 (callW prog L)) (h82 : K82 (callW prog L)) : K39 (callW prog L) := fun v w hs ls amb M hf hP hQ hh hl => by
  rw [run39 h]
  rcases con39 (callW prog L) h80 h81 h82 hP hQ hf hh hl (amb := amb) with ⟨hv, M', h1, h2, h3⟩ | ⟨hv, M', o, h1, h2, h3, _⟩
  · exact ⟨_, M', by rw [h1, hv]; rfl, h2, h3⟩
  · exact ⟨_, M', by rw [h1, hv]; rfl, h2, h3⟩
end Go.Proofs.Tryz.W
namespace Go.Proofs.Tryz.W
attribute [local congr] stepK_cg onOpK_cg callK_cg condK_cg onStillK_cg

theorem con20 (C : Caller) (h39 : K39 C) (y : Hr) (amb peak : Int) {M : Mem} (hf : M.Fine) :
    ∃ M', J20_0 C (argsF [.agg (hrRow y), .int .i64 amb, .int .i64 peak]) M = some (.tuple (if (validH [y] [] amb && !decide (peak < amb) && !decide (peak > 33554432)) = true then [.int .i64 (IntKind.i64.wrap (y.2 * IntKind.i64.wrap (peak - amb))), .int .i64 0] else [.int .i64 0, .int .i64 1]), M') ∧ Gr M M' ∧ M'.Fine := by
  have a0 : argsF [.agg (hrRow y), .int .i64 amb, .int .i64 peak] 0 = .agg (hrRow y) := rfl
  have a1 : argsF [.agg (hrRow y), .int .i64 amb, .int .i64 peak] 1 = .int .i64 amb := rfl
  have a2 : argsF [.agg (hrRow y), .int .i64 amb, .int .i64 peak] 2 = .int .i64 peak := rfl
  obtain ⟨M1, b1, b2, b3, b4, _⟩ := new_agg (M := M) (vs := hrRow y) hf
  have l0 := b4.loadAgg (P := prog) ag41 sz41
  obtain ⟨u, r1, r2⟩ := row1_hr (M := M1) y
  have f2 := b3.alloc (.cells (hrRow y) 0 0)
  have g2 : Gr M1 (M1.alloc (.cells (hrRow y) 0 0)) := Gr.alloc M1 _
  obtain ⟨p, M3, d1, d2, d3⟩ := h39 u .nilSlice [y] [] amb _ f2 r2 (.inl ⟨rfl, .inl rfl⟩) (by simp) (by simp)
  have e4 := (b4.ext b3 g2).ext f2 d2
  have l1 := e4.load (P := prog) (t := 2) ag2 1 (v := .int .i64 y.2) rfl
  have x0 : ∀ N : Mem, evExtract N (.tuple [p, .int .i64 (if validH [y] [] amb = true then 0 else 1)]) 0 = .val p N := fun N => Eq.trans rfl rfl
  have x1 : ∀ N : Mem, evExtract N (.tuple [p, .int .i64 (if validH [y] [] amb = true then 0 else 1)]) 1 = .val (.int .i64 (if validH [y] [] amb = true then 0 else 1)) N := fun N => Eq.trans rfl rfl
  have ne : ∀ N : Mem, evBin prog N .neq 28 (.int .i64 (if validH [y] [] amb = true then 0 else 1)) (.int .i64 0) = .val (.bool (!validH [y] [] amb)) N := fun N => by
    cases validH [y] [] amb <;> exact Eq.trans rfl rfl
  rw [J20_0_eq]
  simp +contextual only [a0, a1, a2, b1, l0, r1, d1, x0, x1, ne, stepK_ok, onOpK_val, onOpK_call, callK_some, bin_lss, bin_gtr, sel_t, sel_f, stepK_no, wantF, wantT, wantS, wantFc, wantTc, step_or, step_and, stepK_val, pick_b, sel_or, sel_and]
  cases hv : validH [y] [] amb <;> cases h1 : decide (peak < amb) <;> cases h2 : decide (peak > 33554432)
  case true.false.false =>
    simp only [Bool.not_true, Bool.or_false, Bool.false_or, condK_false]
    rw [J20_1_eq]
    simp +contextual only [fput_some, Nat.reduceEqDiff, if_false, if_true, a1, a2, stepK_ok, onOpK_val, fa41_1, l1, bin_sub, bin_mul]
    exact ⟨M3, rfl, b2.trans (g2.trans d2), d3⟩
  all_goals
    simp only [Bool.not_true, Bool.not_false, Bool.or_false, Bool.false_or, Bool.true_or, Bool.or_true, condK_true]
    exact ⟨M3, rfl, b2.trans (g2.trans d2), d3⟩
end Go.Proofs.Tryz.W
namespace Go.Proofs.Tryz.W
attribute [local congr] stepK_cg onOpK_cg callK_cg condK_cg onStillK_cg

/-- What ref38.New answers, as far as its callers look. -/
def K43 (C : Caller) (vr : List Hr → List Lk → Int → Bool) : Prop := ∀ (v w : AVal) (hs : List Hr) (ls : List Lk) (amb : Int) (M : Mem), M.Fine → Hrs M v hs → Lks M w ls → hs.length ≤ 1000000 → ls.length ≤ 1000000 → ∃ p M', C 43 [v, w, .int .i64 amb] M = some (.tuple [p, .int .i64 (if vr hs ls amb = true then 0 else 1)], M') ∧ Gr M M' ∧ M'.Fine
theorem k43 {L : Lib} {vr : List Hr → List Lk → Int → Bool} (h : L 43 = none) (h85 : K85 (callW prog L) vr) : K43 (callW prog L) vr := fun v w hs ls amb M hf hP hQ hh hl => by
  rw [run43 h]
  rcases con43 (callW prog L) h85 hP hQ hf hh hl (amb := amb) with ⟨hv, M', h1, h2, h3⟩ | ⟨hv, M', o, h1, h2, h3, _⟩
  · exact ⟨_, M', by rw [h1, hv]; rfl, h2, h3⟩
  · exact ⟨_, M', by rw [h1, hv]; rfl, h2, h3⟩

theorem con42 (C : Caller) {vr : List Hr → List Lk → Int → Bool} (h39 : K43 C vr) (y : Hr) (amb peak : Int) {M : Mem} (hf : M.Fine) :
    ∃ M', J42_0 C (argsF [.agg (hrRow y), .int .i64 amb, .int .i64 peak]) M = some (.tuple (if (vr [y] [] amb && !decide (peak < amb) && !decide (peak > 33554432)) = true then [.int .i64 (IntKind.i64.wrap (y.2 * IntKind.i64.wrap (peak - amb))), .int .i64 0] else [.int .i64 0, .int .i64 1]), M') ∧ Gr M M' ∧ M'.Fine := by
  have a0 : argsF [.agg (hrRow y), .int .i64 amb, .int .i64 peak] 0 = .agg (hrRow y) := rfl
  have a1 : argsF [.agg (hrRow y), .int .i64 amb, .int .i64 peak] 1 = .int .i64 amb := rfl
  have a2 : argsF [.agg (hrRow y), .int .i64 amb, .int .i64 peak] 2 = .int .i64 peak := rfl
  obtain ⟨M1, b1, b2, b3, b4, _⟩ := new_agg (M := M) (vs := hrRow y) hf
  have l0 := b4.loadAgg (P := prog) ag41 sz41
  obtain ⟨u, r1, r2⟩ := row1_hr (M := M1) y
  have f2 := b3.alloc (.cells (hrRow y) 0 0)
  have g2 : Gr M1 (M1.alloc (.cells (hrRow y) 0 0)) := Gr.alloc M1 _
  obtain ⟨p, M3, d1, d2, d3⟩ := h39 u .nilSlice [y] [] amb _ f2 r2 (.inl ⟨rfl, .inl rfl⟩) (by simp) (by simp)
  have e4 := (b4.ext b3 g2).ext f2 d2
  have l1 := e4.load (P := prog) (t := 2) ag2 1 (v := .int .i64 y.2) rfl
  have x0 : ∀ N : Mem, evExtract N (.tuple [p, .int .i64 (if vr [y] [] amb = true then 0 else 1)]) 0 = .val p N := fun N => Eq.trans rfl rfl
  have x1 : ∀ N : Mem, evExtract N (.tuple [p, .int .i64 (if vr [y] [] amb = true then 0 else 1)]) 1 = .val (.int .i64 (if vr [y] [] amb = true then 0 else 1)) N := fun N => Eq.trans rfl rfl
  have ne : ∀ N : Mem, evBin prog N .neq 28 (.int .i64 (if vr [y] [] amb = true then 0 else 1)) (.int .i64 0) = .val (.bool (!vr [y] [] amb)) N := fun N => by
    cases vr [y] [] amb <;> exact Eq.trans rfl rfl
  rw [J42_0_eq]
  simp +contextual only [a0, a1, a2, b1, l0, r1, d1, x0, x1, ne, stepK_ok, onOpK_val, onOpK_call, callK_some, bin_lss, bin_gtr, sel_t, sel_f, stepK_no, wantF, wantT, wantS, wantFc, wantTc, step_or, step_and, stepK_val, pick_b, sel_or, sel_and]
  cases hv : vr [y] [] amb with
  | false =>
    simp only [hv, Bool.not_false, Bool.false_and, condK_true, stepK_ok, onOpK_val, Bool.false_eq_true, if_false]
    exact ⟨M3, rfl, b2.trans (g2.trans d2), d3⟩
  | true =>
    simp only [Bool.not_true, condK_false]
    rw [J42_1_eq]
    simp +contextual only [fput_some, Nat.reduceEqDiff, if_false, if_true, a1, a2, stepK_ok, onOpK_val, bin_lss, bin_gtr, sel_t, stepK_no, wantF, wantT, step_or, stepK_val, pick_b, sel_or]
    cases h1 : decide (peak < amb) <;> cases h2 : decide (peak > 33554432)
    case false.false =>
      simp only [Bool.or_false, condK_false]
      rw [J42_2_eq]
      simp +contextual only [fput_some, Nat.reduceEqDiff, if_false, if_true, a1, a2, stepK_ok, onOpK_val, fa41_1, l1, bin_sub, bin_mul]
      exact ⟨M3, rfl, b2.trans (g2.trans d2), d3⟩
    all_goals
      simp only [Bool.or_false, Bool.false_or, Bool.true_or, Bool.or_true, condK_true]
      exact ⟨M3, rfl, b2.trans (g2.trans d2), d3⟩
end Go.Proofs.Tryz.W
namespace Go.Proofs.Tryz.W
attribute [local congr] stepK_cg onOpK_cg callK_cg condK_cg onStillK_cg

theorem El.set {M : Mem} {p : AAddr} {r : List AVal} (h : El M p r) {id : Nat} (hne : p.id ≠ id) (b : ABlock) : El (M.set id b) p r := by
  obtain ⟨cs, ep, lo, h1, h2, h3, h4⟩ := h
  exact ⟨cs, ep, lo, by rw [Mem.get_set, if_neg hne]; exact h1, h2, h3, h4⟩

theorem sel_oa (a b c : Bool) : cond a (AVal.bool true) (sel (some !a) (cond b (sel (some (!a && b)) (AVal.bool c)) (AVal.bool false))) = AVal.bool (a || (b && c)) := by cases a <;> cases b <;> exact Eq.trans rfl rfl

/-- ref38.valid's innermost loop: the links before this one. -/
theorem w85c (C : Caller) {w : AVal} {y : Lk} {q : AAddr} {M : Mem} {i : Nat} {ls : List Lk} (hi : i ≤ ls.length) (hL : Lks M w ls) (hq : El M q (lkRow y)) (hl : ls.length ≤ 1000000) : ∀ (n k : Nat) (e : FEnv), k + n = i → e 1 = w → e 10 = .int .i64 (i : Int) → e 11 = .ptr q → e 12 = .int .i64 (k : Int) →
    (((ls.take i).drop k).any (fun x => conn x y) = true ∧ W85_12 C e M = some (.bool false, M)) ∨
    (((ls.take i).drop k).any (fun x => conn x y) = false ∧ ∃ e', W85_12 C e M = J85_10 C e' M ∧ e' 0 = e 0 ∧ e' 1 = e 1 ∧ e' 7 = e 7 ∧ e' 10 = e 10) := by
  intro n
  induction n with
  | zero =>
    intro k e hk g1 g10 g11 g12
    have hk : k = i := by omega
    subst hk
    right
    rw [W85_12_eq]
    simp only [g10, g12, stepK_ok, onOpK_val, bin_lss, Int.lt_irrefl, decide_false, condK_false]
    refine ⟨by rw [List.drop_of_length_le (by rw [List.length_take]; omega)]; rfl, _, rfl, ?_, ?_, ?_, ?_⟩ <;> simp only [fput_some, Nat.reduceEqDiff, if_false, g10]
  | succ n ih =>
    intro k e hk g1 g10 g11 g12
    have hlt : ((k : Int) < (i : Int)) := by omega
    have hkl : k < ls.length := by omega
    obtain ⟨x, hx⟩ : ∃ x, ls[k]? = some x := ⟨ls[k], List.getElem?_eq_getElem hkl⟩
    have hdrop : (ls.take i).drop k = x :: (ls.take i).drop (k + 1) := by
      have hkt : k < (ls.take i).length := by rw [List.length_take]; omega
      rw [List.drop_eq_getElem_cons hkt, List.getElem_take, (List.getElem?_eq_some_iff.mp hx).2]
    obtain ⟨p, hp1, hp2⟩ := hL.idx un23 sz210 (i := k) (r := lkRow x) (by rw [List.getElem?_map, hx]; rfl) M
    have l1 := hp2.load (P := prog) (t := 3) ag3 0 (v := .int .i64 x.1) rfl
    have l2 := hp2.load (P := prog) (t := 3) ag3 1 (v := .int .i64 x.2.1) rfl
    have k1 := hq.load (P := prog) (t := 3) ag3 0 (v := .int .i64 y.1) rfl
    have k2 := hq.load (P := prog) (t := 3) ag3 1 (v := .int .i64 y.2.1) rfl
    have hw : IntKind.i64.wrap ((k : Int) + 1) = ((k + 1 : Nat) : Int) := by
      rw [wrap_i64 (by omega) (by omega)]; simp
    rw [W85_12_eq]
    simp only [g10, g12, stepK_ok, onOpK_val, bin_lss, decide_eq_true hlt, condK_true]
    rw [J85_13_eq]
    simp +contextual only [fput_some, Nat.reduceEqDiff, if_false, if_true, g1, g10, g11, g12, stepK_ok, onOpK_val, hp1, fa210_0, fa210_1, l1, l2, k1, k2, bin_eql, sel_t, sel_f, stepK_no, wantF, wantT, wantS, wantFc, wantTc, step_or, step_and, stepK_val, pick_b, sel_or, sel_and]
    rw [sel_oa]
    have hb : ((x.1 == y.1 && x.2.1 == y.2.1) || (x.1 == y.2.1 && x.2.1 == y.1)) = conn x y := rfl
    rw [hb, hdrop, List.any_cons]
    cases hc : conn x y with
    | true => left; simp only [condK_true, Bool.true_or]; exact ⟨trivial, trivial⟩
    | false =>
      simp only [condK_false, Bool.false_or]
      rw [J85_14_eq]
      simp only [fput_some, Nat.reduceEqDiff, if_false, if_true, g12, stepK_ok, onOpK_val, bin_add, hw]
      have key := ih (k + 1)
      refine Or.imp id (And.imp_right (Exists.imp fun e' h => ⟨h.1, h.2.1.trans ?_, h.2.2.1.trans ?_, h.2.2.2.1.trans ?_, h.2.2.2.2.trans ?_⟩)) (key _ (by omega) ?_ ?_ ?_ ?_) <;> simp only [fput_some, Nat.reduceEqDiff, if_false, if_true, g1, g10, g11]
end Go.Proofs.Tryz.W
namespace Go.Proofs.Tryz.W
attribute [local congr] stepK_cg onOpK_cg callK_cg condK_cg onStillK_cg

def out0 (n : Nat) (y : Lk) : Bool := decide (y.1 < 0) || decide (y.1 ≥ (n : Int)) || decide (y.2.1 < 0) || decide (y.2.1 ≥ (n : Int))
def badV (n : Nat) (rm : List Int) (y : Lk) : Bool := out0 n y || (y.1 == y.2.1) || decide (y.2.2 < 1) || decide (y.2.2 > rm.getD y.1.toNat 0) || decide (y.2.2 > rm.getD y.2.1.toNat 0)
def less1 (rm : List Int) (a c : Int) : List Int := rm.set a.toNat (IntKind.i64.wrap (rm.getD a.toNat 0 - c))
def vr2 (n : Nat) : List Lk → List Int → List Lk → Bool
  | _, _, [] => true
  | pre, rm, y :: r => !badV n rm y && (!pre.any (fun x => conn x y) && vr2 n (pre ++ [y]) (less1 (less1 rm y.1 y.2.2) y.2.1 y.2.2) r)
theorem less1_len (rm : List Int) (a c : Int) : (less1 rm a c).length = rm.length := List.length_set

theorem getD_some {l : List Int} {i : Nat} (h : i < l.length) : l[i]? = some (l.getD i 0) := by rw [List.getD_eq_getElem?_getD, List.getElem?_eq_getElem h]; rfl

theorem w85b (C : Caller) {M0 : Mem} (hf0 : M0.Fine) {v w rv : AVal} (rm : Nat) (ho : M0.next ≤ rm) {hs : List Hr} {n : Nat} (hn : hs.length = n) (hP0 : Hrs M0 v hs) : ∀ (suf pre : List Lk) (e : FEnv) (M : Mem) (room : List Int), room.length = n → Lks M0 w (pre ++ suf) → M.Fine → Gr M0 M → Own M rv rm room → e 0 = v → e 1 = w → e 7 = rv → e 10 = .int .i64 (pre.length : Int) → (pre ++ suf).length ≤ 1000000 →
    ∃ M', W85_5 C e M = some (.bool (vr2 n pre room suf), M') ∧ Gr M0 M' ∧ M'.Fine := by
  intro suf
  induction suf with
  | nil =>
    intro pre e M room hr hL hf hg hO g0 g1 g7 g10 hl
    have hlen := (hL.ext hf0 hg).len un23
    simp only [List.append_nil, List.length_map] at hlen
    rw [W85_5_eq]
    simp only [g1, g10, hlen, stepK_ok, onOpK_val, bin_lss, Int.lt_irrefl, decide_false, condK_false]
    rw [J85_4_eq]
    simp only [stepK_ok, onOpK_val]
    exact ⟨M, rfl, hg, hf⟩
  | cons y r ih =>
    intro pre e M room hr hL hf hg hO g0 g1 g7 g10 hl
    obtain ⟨a, b, c⟩ := y
    have hLM : Lks M w (pre ++ (a, b, c) :: r) := hL.ext hf0 hg
    have hlen := hLM.len un23
    simp only [List.length_map] at hlen
    obtain ⟨q, hp1, hp2⟩ := hLM.idx un23 sz210 (i := pre.length) (r := lkRow (a, b, c)) (by simp) M
    have l0 := hp2.loadAgg (P := prog) ag210 sz210
    obtain ⟨M1, M2, b1, b2, b3, b4, b5, _, hn2⟩ := box_agg (P := prog) (M := M) (t := 210) (vs := lkRow (a, b, c)) z210s z210l sz210 rfl (by omega) hf
    have l1 := b5.load (P := prog) (t := 3) ag3 0 (v := .int .i64 a) rfl
    have l2 := b5.load (P := prog) (t := 3) ag3 1 (v := .int .i64 b) rfl
    have l3 := b5.load (P := prog) (t := 2) ag2 2 (v := .int .i64 c) rfl
    have hO2 := hO.ext hf b3
    have hhl := (hP0.ext hf0 (hg.trans b3)).len un104
    simp only [List.length_map, hn] at hhl
    have hlt : ((pre.length : Int) < ((pre ++ (a, b, c) :: r).length : Int)) := by simp; omega
    have hw : IntKind.i64.wrap ((pre.length : Int) + 1) = ((pre ++ [(a, b, c)]).length : Int) := by
      rw [wrap_i64 (by omega) (by simp at hl; omega)]; simp
    rw [W85_5_eq]
    simp only [g1, g10, hlen, stepK_ok, onOpK_val, bin_lss, decide_eq_true hlt, condK_true]
    rw [J85_7_eq]
    unfold vr2
    cases hou : out0 n (a, b, c) with
    | true =>
      have hou' : (decide (a < 0) || decide (a ≥ (n : Int)) || decide (b < 0) || decide (b ≥ (n : Int))) = true := hou
      simp +contextual (maxSteps := 5000000) only [fput_some, Nat.reduceEqDiff, if_false, if_true, g0, g1, g7, g10, stepK_ok, onOpK_val, hp1, l0, b1, b2, fa210_0, fa210_1, fa210_2, l1, l2, l3, hhl, bin_lss, bin_gtr, bin_geq, bin_eql, hou', Bool.not_true, Bool.not_false, Bool.true_or, cond_true, sel_t, sel_f, stepK_no, wantF, wantT, wantS, wantFc, wantTc, step_or, step_and, stepK_val, pick_b, sel_or, sel_and, condK_true]
      refine ⟨M2, ?_, hg.trans b3, b4⟩
      simp [badV, hou]
    | false =>
      have hou' : (decide (a < 0) || decide (a ≥ (n : Int)) || decide (b < 0) || decide (b ≥ (n : Int))) = false := hou
      have hab : 0 ≤ a ∧ a < (n : Int) ∧ 0 ≤ b ∧ b < (n : Int) := by
        simp only [Bool.or_eq_false_iff, decide_eq_false_iff_not] at hou'; omega
      obtain ⟨ha0, han, hb0, hbn⟩ := hab
      obtain ⟨na, rfl⟩ := Int.eq_ofNat_of_zero_le ha0
      obtain ⟨nb, rfl⟩ := Int.eq_ofNat_of_zero_le hb0
      have han' : na < room.length := by omega
      have hbn' : nb < room.length := by omega
      have ga : room[na]? = some (room.getD na 0) := getD_some han'
      have gb : room[nb]? = some (room.getD nb 0) := getD_some hbn'
      have ia := fun M' => hO2.idx han' M'
      have ib := fun M' => hO2.idx hbn' M'
      have la := hO2.load ga
      have lb := hO2.load gb
      have hbv : (false || ((na : Int) == (nb : Int)) || decide (c < 1) || decide (c > room.getD na 0) || decide (c > room.getD nb 0)) = badV n room ((na : Int), (nb : Int), c) := by
        unfold badV; rw [hou]; rfl
      simp +contextual (maxSteps := 5000000) only [fput_some, Nat.reduceEqDiff, if_false, if_true, g0, g1, g7, g10, stepK_ok, onOpK_val, hp1, l0, b1, b2, fa210_0, fa210_1, fa210_2, l1, l2, l3, hhl, ia, ib, la, lb, bin_lss, bin_gtr, bin_geq, bin_eql, sel_t, sel_f, stepK_no, wantF, wantT, wantS, wantFc, wantTc, step_or, step_and, stepK_val, pick_b, sel_or, sel_and]
      rw [hou', hbv]
      cases hb1 : badV n room ((na : Int), (nb : Int), c) with
      | true =>
        simp only [condK_true]
        exact ⟨M2, rfl, hg.trans b3, b4⟩
      | false =>
        simp only [condK_false, Bool.not_false, Bool.true_and]
        obtain ⟨M3, s1, s2, s3⟩ := hO2.store han' (IntKind.i64.wrap (room.getD na 0 - c))
        have hbn3 : nb < (room.set na (IntKind.i64.wrap (room.getD na 0 - c))).length := by rw [List.length_set]; exact hbn'
        have gb3 : (room.set na (IntKind.i64.wrap (room.getD na 0 - c)))[nb]? = some ((room.set na (IntKind.i64.wrap (room.getD na 0 - c))).getD nb 0) := getD_some hbn3
        have ib3 := fun M' => s2.idx hbn3 M'
        have lb3 := s2.load gb3
        obtain ⟨M4, t1, t2, t3⟩ := s2.store hbn3 (IntKind.i64.wrap ((room.set na (IntKind.i64.wrap (room.getD na 0 - c))).getD nb 0 - c))
        simp only [List.length_set] at ib3 lb3 t1
        have hroom : (room.set na (IntKind.i64.wrap (room.getD na 0 - c))).set nb (IntKind.i64.wrap ((room.set na (IntKind.i64.wrap (room.getD na 0 - c))).getD nb 0 - c)) = less1 (less1 room (na : Int) c) (nb : Int) c := rfl
        rw [hroom] at t2 t3
        have hid : M.next ≠ rm := by have := hf rm _ hO.2; omega
        have e3 : El M3 ⟨M.next, 0, 0, 3⟩ (lkRow ((na : Int), (nb : Int), c)) := by rw [s3]; exact El.set b5 hid _
        have e4 : El M4 ⟨M.next, 0, 0, 3⟩ (lkRow ((na : Int), (nb : Int), c)) := by rw [t3]; exact El.set e3 hid _
        have hf3 : M3.Fine := by rw [s3]; exact b4.set (b4 rm _ hO2.2) _
        have hg3 : Gr M0 M3 := by rw [s3]; exact (hg.trans b3).set ho _
        have hf4 : M4.Fine := by rw [t3]; exact hf3.set (hf3 rm _ s2.2) _
        have hg4 : Gr M0 M4 := by rw [t3]; exact hg3.set ho _
        have m1 := e3.load (P := prog) (t := 3) ag3 1 (v := .int .i64 (nb : Int)) rfl
        have m2 := e3.load (P := prog) (t := 2) ag2 2 (v := .int .i64 c) rfl
        rw [J85_11_eq]
        simp +contextual (maxSteps := 5000000) only [fput_some, Nat.reduceEqDiff, if_false, if_true, g0, g1, g7, g10, stepK_ok, onOpK_val, onStillK_true, fa210_0, fa210_1, fa210_2, l1, l2, l3, ia, ib, la, lb, bin_sub, s1, m1, m2, ib3, lb3, t1]
        have hL4 : Lks M4 w (pre ++ ((na : Int), (nb : Int), c) :: r) := hL.ext hf0 hg4
        have inner := fun E x1 x10 x11 x12 => w85c C (w := w) (y := ((na : Int), (nb : Int), c)) (q := ⟨M.next, 0, 0, 3⟩) (M := M4) (i := pre.length) (ls := pre ++ ((na : Int), (nb : Int), c) :: r) (by simp) hL4 e4 hl pre.length 0 E (by omega) x1 x10 x11 x12
        have htk : ((pre ++ ((na : Int), (nb : Int), c) :: r).take pre.length).drop 0 = pre := by simp
        rw [htk] at inner
        have fin : ∀ E : FEnv, E 0 = v → E 1 = w → E 7 = rv → E 10 = .int .i64 (pre.length : Int) → E 11 = .ptr ⟨M.next, 0, 0, 3⟩ → E 12 = .int .i64 ((0 : Nat) : Int) → ∃ M', W85_12 C E M4 = some (.bool (!pre.any (fun x => conn x ((na : Int), (nb : Int), c)) && vr2 n (pre ++ [((na : Int), (nb : Int), c)]) (less1 (less1 room (na : Int) c) (nb : Int) c) r), M') ∧ Gr M0 M' ∧ M'.Fine := by
          intro E x0 x1 x7 x10 x11 x12
          rcases inner E x1 x10 x11 x12 with ⟨h1, h2⟩ | ⟨h1, e', h2, y0, y1, y7, y10⟩
          · rw [h2, h1]; exact ⟨M4, rfl, hg4, hf4⟩
          · rw [h2, h1, J85_10_eq]
            rw [x0] at y0; rw [x1] at y1; rw [x7] at y7; rw [x10] at y10
            simp only [y10, stepK_ok, onOpK_val, bin_add, hw, Bool.not_false, Bool.true_and]
            refine ih (pre ++ [((na : Int), (nb : Int), c)]) _ M4 _ (by rw [less1_len, less1_len]; exact hr) (by simpa using hL) hf4 hg4 t2 ?_ ?_ ?_ ?_ (by simpa using hl) <;> simp only [fput_some, Nat.reduceEqDiff, if_false, if_true, y0, y1, y7]
        refine fin _ ?_ ?_ ?_ ?_ ?_ ?_ <;> simp only [fput_some, Nat.reduceEqDiff, if_false, if_true, g0, g1, g7, g10] <;> rfl
end Go.Proofs.Tryz.W
