/-
  Part of a proof over this seat: see the last text.
-/
import Derived.Test.YtiikicpepnaghaaGreatDoorM44c
import Derived.Test.YtiikicpepnaghaaGreatDoorVeObj2
set_option linter.unusedSimpArgs false
set_option linter.unusedVariables false
open Go Go.VE
namespace Go.Proofs.Tryz.W
attribute [local congr] stepK_cg onOpK_cg callK_cg condK_cg onStillK_cg

def K39s (C : Caller) : Prop := ∀ (v w : AVal) (hs : List Hr) (ls : List Lk) (amb : Int) (M : Mem), M.Fine → Hrs M v hs → Lks M w ls → hs.length ≤ 1000000 → ls.length ≤ 1000000 →
    (validH hs ls amb = false ∧ ∃ M', C 39 [v, w, .int .i64 amb] M = some (.tuple [.nilPtr, .int .i64 1], M') ∧ Gr M M' ∧ M'.Fine) ∨
    (validH hs ls amb = true ∧ ∃ M' o, C 39 [v, w, .int .i64 amb] M = some (.tuple [.ptr ⟨o, 0, 0, 5⟩, .int .i64 0], M') ∧ Gr M M' ∧ M'.Fine)
theorem k39s {L : Lib} (h : L 39 = none) (h80 : K80 (callW prog L)) (h81 : K81 (callW prog L)) (h82 : K82 (callW prog L)) : K39s (callW prog L) := fun v w hs ls amb M hf hP hQ hh hl => by
  rw [run39 h]
  rcases con39 (callW prog L) h80 h81 h82 hP hQ hf hh hl (amb := amb) with ⟨hv, M', h1, h2, h3⟩ | ⟨hv, M', o, h1, h2, h3, _⟩
  · exact .inl ⟨hv, M', h1, h2, h3⟩
  · exact .inr ⟨hv, M', o, h1, h2, h3⟩

def badN (n ln : Nat) (bud : Int) : Bool := decide ((n : Int) > 8) || decide (bud > 4294967296) || (((n : Int) == 0) && decide ((ln : Int) > 0))
def tOk (bs : List Bd) (ls : List Lk) (amb lim bud : Int) : Bool := !badN bs.length ls.length bud && (bs.all (bOk amb lim) && (((bs.length : Int) == 0) || validH (bs.map Bd.y) ls amb))

theorem con11 (C : Caller) (h38 : K38 C) (h39 : K39s C) {v w : AVal} {bs : List Bd} {ls : List Lk} {amb lim bud : Int} {M : Mem} (hf : M.Fine) (hP : Bds M v bs) (hQ : Lks M w ls) (hbl : bs.length ≤ 1000000) (hls : ls.length ≤ 1000000) :
    (tOk bs ls amb lim bud = false ∧ ∃ M', J11_0 C (argsF [v, w, .int .i64 amb, .int .i64 lim, .int .u64 bud]) M = some (.tuple [.nilPtr, .int .i64 1], M') ∧ Gr M M' ∧ M'.Fine) ∨
    (tOk bs ls amb lim bud = true ∧ ∃ M' o, J11_0 C (argsF [v, w, .int .i64 amb, .int .i64 lim, .int .u64 bud]) M = some (.tuple [.ptr ⟨o, 0, 0, 3⟩, .int .i64 0], M') ∧ Gr M M' ∧ M'.Fine) := by
  generalize ha : argsF [v, w, .int .i64 amb, .int .i64 lim, .int .u64 bud] = A
  have a0 : A 0 = v := by rw [← ha]; rfl
  have a1 : A 1 = w := by rw [← ha]; rfl
  have a2 : A 2 = .int .i64 amb := by rw [← ha]; rfl
  have a3 : A 3 = .int .i64 lim := by rw [← ha]; rfl
  have a4 : A 4 = .int .u64 bud := by rw [← ha]; rfl
  have hlen : ∀ N, Go.VE.builtin prog N .len #[22] [v] = .val (.int .i64 (bs.length : Int)) N := fun N => by have := hP.1.len un22 N; simpa using this
  have hlen2 : ∀ N, Go.VE.builtin prog N .len #[23] [w] = .val (.int .i64 (ls.length : Int)) N := fun N => by have := hQ.len un23 N; simpa using this
  rw [J11_0_eq]
  simp +contextual only [fput_some, Nat.reduceEqDiff, if_false, if_true, a0, a1, a2, a3, a4, stepK_ok, onOpK_val, hlen, hlen2, bin_lss, bin_gtr, bin_eql, sel_t, sel_f, stepK_no, wantF, wantT, wantS, wantFc, wantTc, step_or, step_and, stepK_val, pick_b, sel_or, sel_and]
  rw [sel_oa]
  have hb : (decide ((bs.length : Int) > 8) || decide (bud > 4294967296) || (((bs.length : Int) == 0) && decide ((ls.length : Int) > 0))) = badN bs.length ls.length bud := rfl
  rw [hb]
  unfold tOk
  cases hB : badN bs.length ls.length bud with
  | true =>
    left
    simp only [condK_true, stepK_ok, onOpK_val]
    exact ⟨rfl, M, rfl, Gr.refl M, hf⟩
  | false =>
    simp only [condK_false, Bool.not_false, Bool.true_and]
    have hn : bs.length ≤ 8 := by simp only [badN, Bool.or_eq_false_iff, decide_eq_false_iff_not] at hB; omega
    obtain ⟨M1, b1, b2, b3, b4, b5⟩ := new_ob (M := M) (vs := [.nilSlice, .int .u64 bud, .nilPtr]) hf
    rw [J11_1_eq]
    have hI : Inv11 M M1 M.next bud .nilSlice .nilSlice 0 [] := ⟨Nat.le_refl _, b4, ⟨[], .nil⟩, .nil, fun i hi => (blk_nil hi).elim, fun i hi => (blk_nil hi).elim⟩
    have b1' : evNew M (.agg [.nilSlice, .int .u64 bud, .nilPtr]) = .val (.ptr ⟨M.next, 0, 0, 3⟩) M1 := b1
    have tail : ∀ E : FEnv, E 0 = v → E 1 = w → E 2 = .int .i64 amb → E 3 = .int .i64 lim → E 12 = .ptr ⟨M.next, 0, 0, 3⟩ → E 13 = .nilSlice → E 40 = v → E 41 = .int .i64 (bs.length : Int) → E 42 = .int .i64 ((0 : Nat) : Int) →
        ((bs.all (bOk amb lim) && (((bs.length : Int) == 0) || validH (bs.map Bd.y) ls amb)) = false ∧ ∃ M', W11_3 C E M1 = some (.tuple [.nilPtr, .int .i64 1], M') ∧ Gr M M' ∧ M'.Fine) ∨
        ((bs.all (bOk amb lim) && (((bs.length : Int) == 0) || validH (bs.map Bd.y) ls amb)) = true ∧ ∃ M' o, W11_3 C E M1 = some (.tuple [.ptr ⟨o, 0, 0, 3⟩, .int .i64 0], M') ∧ Gr M M' ∧ M'.Fine) := by
      intro E x0 x1 x2 x3 x12 x13 x40 x41 x42
      rcases w11 C h38 hf (v := v) (amb := amb) (lim := lim) (bud := bud) bs [] E M1 M.next .nilSlice .nilSlice hP b3 b2 hI x2 x3 x12 x13 x40 x41 x42 (by simp; omega) with ⟨h1, M2, h2, h3, h4⟩ | ⟨h1, e', M2, s', h', h2, h3, h4, h5, y0, y1, y2, y12, y13⟩
      · left; rw [h1]; exact ⟨rfl, M2, h2, h3, h4⟩
      · rw [h1, h2, J11_2_eq]
        rw [x0] at y0; rw [x1] at y1; rw [x2] at y2
        simp only [fput_some, Nat.reduceEqDiff, if_false, if_true, y0, y12, stepK_ok, onOpK_val, hlen, bin_eql, Bool.true_and]
        cases hz : ((bs.length : Int) == 0) with
        | true =>
          right
          simp only [condK_true, stepK_ok, onOpK_val, Bool.true_or]
          exact ⟨trivial, M2, M.next, rfl, h3, h4⟩
        | false =>
          simp only [condK_false, Bool.false_or]
          have hh : Hrs M2 h' (bs.map Bd.y) := by
            refine TipX.sl (rows := (bs.map Bd.y).map hrRow) ?_ (fun r hr => ?_)
            · have := h5.th; simpa using this
            · obtain ⟨z, _, rfl⟩ := List.mem_map.mp hr; rfl
          have hw2 : Lks M2 w ls := hQ.ext hf h3
          rw [J11_4_eq]
          rcases h39 h' w (bs.map Bd.y) ls amb M2 h4 hh hw2 (by simp; omega) hls with ⟨hv, M3, c1, c2, c3⟩ | ⟨hv, M3, o, c1, c2, c3⟩
          · left
            simp +contextual only [fput_some, Nat.reduceEqDiff, if_false, if_true, y1, y2, y13, stepK_ok, onOpK_val, onOpK_call, c1, callK_some, evExtract_tuple, List.getElem?_cons_zero, List.getElem?_cons_succ, ofOpt_some, bin_neq, show ((1 : Int) != 0) = true from rfl, condK_true]
            exact ⟨hv, M3, rfl, h3.trans c2, c3⟩
          · right
            have ob3 := c2.get h4 h5.ob
            have st := ob_store (P := prog) (n := 3) (i := 2) (t := 101) (x := .ptr ⟨o, 0, 0, 5⟩) ob3 rfl sz101 (by omega) rfl rfl
            simp +contextual only [fput_some, Nat.reduceEqDiff, if_false, if_true, y1, y2, y13, stepK_ok, onOpK_val, onOpK_call, c1, callK_some, evExtract_tuple, List.getElem?_cons_zero, List.getElem?_cons_succ, ofOpt_some, bin_neq, show ((0 : Int) != 0) = false from rfl, condK_false]
            rw [J11_6_eq]
            simp +contextual only [fput_some, Nat.reduceEqDiff, if_false, if_true, y12, stepK_ok, onOpK_val, nck, fa103_2, st]
            exact ⟨hv, _, M.next, rfl, (h3.trans c2).set (Nat.le_refl _) _, c3.set (c3 _ _ ob3) _⟩
    simp +contextual only [fput_some, Nat.reduceEqDiff, if_false, if_true, a0, a4, stepK_ok, onOpK_val, bR103, b1', hlen]
    refine tail _ ?_ ?_ ?_ ?_ ?_ ?_ ?_ ?_ ?_ <;> simp only [fput_some, Nat.reduceEqDiff, if_false, if_true, a0, a1, a2, a3] <;> rfl
def K11 (C : Caller) : Prop := ∀ (v w : AVal) (bs : List Bd) (ls : List Lk) (amb lim bud : Int) (M : Mem), M.Fine → Bds M v bs → Lks M w ls → bs.length ≤ 1000000 → ls.length ≤ 1000000 →
    (tOk bs ls amb lim bud = false ∧ ∃ M', C 11 [v, w, .int .i64 amb, .int .i64 lim, .int .u64 bud] M = some (.tuple [.nilPtr, .int .i64 1], M') ∧ Gr M M' ∧ M'.Fine) ∨
    (tOk bs ls amb lim bud = true ∧ ∃ M' o, C 11 [v, w, .int .i64 amb, .int .i64 lim, .int .u64 bud] M = some (.tuple [.ptr ⟨o, 0, 0, 3⟩, .int .i64 0], M') ∧ Gr M M' ∧ M'.Fine)
theorem k11 {L : Lib} (h : L 11 = none) (h38 : K38 (callW prog L)) (h39 : K39s (callW prog L)) : K11 (callW prog L) := fun v w bs ls amb lim bud M hf hP hQ h1 h2 => by
  rw [run11 h]; exact con11 _ h38 h39 hf hP hQ h1 h2
end Go.Proofs.Tryz.W
namespace Go.Proofs.Tryz.W
attribute [local congr] stepK_cg onOpK_cg callK_cg condK_cg onStillK_cg

def PtrV (p : AVal) : Prop := p = .nilPtr ∨ ∃ a, p = .ptr a
theorem PtrV.plain {p : AVal} (h : PtrV p) : Cell1 p := by rcases h with rfl | ⟨a, rfl⟩ <;> exact ⟨rfl, rfl⟩
def SlV (v : AVal) : Prop := v = .nilSlice ∨ v = .emptySl ∨ ∃ a sz n cap ex, v = .slice a sz n cap ex
theorem SlV.sv {v : AVal} (h : SlV v) (N : Mem) : sameVal v (.val v N) = true := by
  rcases h with rfl | rfl | ⟨a, sz, n, cap, ex, rfl⟩
  · rfl
  · rfl
  · simp [sameVal, AVal.beq, AVal.beq0]
theorem slV_sl {M : Mem} {v : AVal} {sz : Nat} {rows : List (List AVal)} (h : Sl M v sz rows) : SlV v := by
  rcases h with ⟨_, rfl | rfl⟩ | ⟨a, cap, ex, rfl, _⟩
  · exact .inl rfl
  · exact .inr (.inl rfl)
  · exact .inr (.inr ⟨_, _, _, _, _, rfl⟩)
theorem slV_tip {M : Mem} {v : AVal} {sz n : Nat} {cs : List AVal} (h : TipX M v sz n cs) : SlV v := by
  rcases h with ⟨rfl, _⟩ | ⟨id, ep, lo, rfl, _⟩
  · exact .inl rfl
  · exact .inr (.inr ⟨_, _, _, _, _, rfl⟩)
theorem sv_int (k : IntKind) (n : Int) (N : Mem) : sameVal (.int k n) (.val (.int k n) N) = true := by simp [sameVal, AVal.beq, AVal.beq0]
theorem sv_gp (g : Gp) (N : Mem) : sameVal (.agg (gpRow g)) (.val (.agg (gpRow g)) N) = true := by simp [sameVal, AVal.beq, gpRow, all2, AVal.beq0]

theorem bR215 {v : AVal} (hv : Cell1 v) (g : Gp) (h : Int) (M : Mem) : evBuildR prog M 215 [(0, v), (1, .agg (gpRow g)), (3, .int .i64 h)] = .val (.agg [v, .int .i64 g.1, .int .i64 g.2.1, .int .i64 g.2.2, .int .i64 0, .int .i64 h, .int .i64 0, .int .i64 0]) M := by
  rw [build_eq zr215 pl215]; simp [fillV, listAt, hv.1, hv.2, overlay, evAgg, solid_int, solid_agg, cells_int, cells_agg, gpRow]
theorem bR219 {v w : AVal} (hv : Cell1 v) (hw : Cell1 w) (h : Int) (M : Mem) : evBuildR prog M 219 [(0, v), (1, w), (2, .int .i64 h)] = .val (.agg [v, w, .int .i64 h, .int .i64 0]) M := by
  rw [build_eq zr219 pl219]; simp [fillV, listAt, hv.1, hv.2, hw.1, hw.2, overlay, evAgg, solid_int, solid_agg, cells_int, cells_agg]

def K83 (C : Caller) : Prop := ∀ (v : AVal) (l : List Pt) (M : Mem), M.Fine → Pts M v l → ∃ M', C 83 [v] M = some (.int .i64 (chk l), M') ∧ Gr M M' ∧ M'.Fine
theorem k83 {L : Lib} (h : L 83 = none) : K83 (callW prog L) := fun v l M hf hP => by rw [run83 h]; exact check83 _ hP hf
def K84 (C : Caller) : Prop := ∀ (v : AVal) (l : List Tp) (M : Mem), M.Fine → Tps M v l → ∃ M', C 84 [v] M = some (.int .i64 (chkT l), M') ∧ Gr M M' ∧ M'.Fine
theorem k84 {L : Lib} (h : L 84 = none) : K84 (callW prog L) := fun v l M hf hP => by rw [run84 h]; exact trips84 _ hP hf
theorem chkT01 (l : List Tp) : chkT l = 0 ∨ chkT l = 1 := by
  unfold chkT
  split
  · right; rfl
  · split <;> simp

theorem con40 (C : Caller) (h83 : K83 C) {v : AVal} {l : List Pt} {g : Gp} {M : Mem} (hP : Pts M v l) (hf : M.Fine) (hl : l.length ≤ 1000000) :
    ∃ p M', J40_0 C (argsF [v, .agg (gpRow g)]) M = some (.tuple [p, .int .i64 (if gOk l g = true then 0 else 1)], M') ∧ PtrV p ∧ Gr M M' ∧ M'.Fine := by
  have a0 : argsF [v, .agg (gpRow g)] 0 = v := rfl
  have a1 : argsF [v, .agg (gpRow g)] 1 = .agg (gpRow g) := rfl
  obtain ⟨M1, b1, b2, b3, b4, b5⟩ := new_agg (M := M) (vs := gpRow g) hf
  have hP1 : Pts M1 v l := hP.ext hf b2
  obtain ⟨M2, c1, c2, c3⟩ := h83 v l M1 b3 hP1
  have e4 := b4.ext b3 c2
  rw [J40_0_eq]
  simp +contextual only [fput_some, Nat.reduceEqDiff, if_false, if_true, a0, a1, b1, stepK_ok, onOpK_val, onOpK_call, callK_some, c1, bin_neq]
  rcases chk01 l with hc | hc
  · have hne : ((chk l : Int) != 0) = false := by rw [hc]; rfl
    rw [hne]
    simp only [condK_false]
    have l0 := e4.load (P := prog) (t := 3) ag3 0 (v := .int .i64 g.1) rfl
    have l1 := e4.load (P := prog) (t := 3) ag3 1 (v := .int .i64 g.2.1) rfl
    have l2 := e4.load (P := prog) (t := 3) ag3 2 (v := .int .i64 g.2.2) rfl
    rw [J40_1_eq]
    simp +contextual only [fput_some, Nat.reduceEqDiff, if_false, if_true, stepK_ok, onOpK_val, fa39_0, fa39_1, fa39_2, l0, l1, l2, bin_lss, bin_gtr, bin_geq, sel_t, sel_f, stepK_no, wantF, wantT, wantS, wantFc, wantTc, step_or, step_and, stepK_val, pick_b, sel_or, sel_and]
    have hb : (decide (g.1 < 1) || decide (g.1 > 100) || decide (g.2.1 < 0) || decide (g.2.1 ≥ g.1) || decide (g.2.2 < 1) || decide (g.2.2 > 1000)) = badG g := rfl
    rw [hb]
    cases hg : badG g with
    | true =>
      simp only [condK_true, stepK_ok, onOpK_val]
      exact ⟨_, M2, by rw [show gOk l g = false by simp [gOk, hg]]; rfl, .inl rfl, b2.trans c2, c3⟩
    | false =>
      simp only [condK_false]
      have hP2 : Pts M2 v l := hP1.ext b3 c2
      have hlen : ∀ N, Go.VE.builtin prog N .len #[42] [v] = .val (.int .i64 (l.length : Int)) N := fun N => by have := hP2.len un42 N; simpa using this
      obtain ⟨M3, M4, s, d1, d2, d3, d4, d5, d6⟩ := Sl.clone (P := prog) hP2 c3 un42 zc61 (by omega) (fits_of by61 (by omega) (m := 1000000) (by omega) (by simpa using hl))
      have g23 : Gr M2 M3 := by
        have := d1
        rw [row0 un42 zc61] at this
        simp only [OpR.val.injEq, true_and] at this
        rw [← this]; exact Gr.alloc _ _
      have lA := (e4.ext c3 g23).loadAgg (P := prog) (t := 39) ag39 sz39
      have lA3 := (e4.ext c3 d4).loadAgg (P := prog) (t := 39) ag39 sz39
      have hw : IntKind.i64.wrap ((l.length : Int) - 1) = (l.length : Int) - 1 := wrap_i64 (by omega) (by omega)
      have bR := bR215 d3.plain g ((l.length : Int) - 1) M4
      obtain ⟨M5, f1, f2, f3, f4, f5⟩ := new_ob (M := M4) (vs := [s, .int .i64 g.1, .int .i64 g.2.1, .int .i64 g.2.2, .int .i64 0, .int .i64 ((l.length : Int) - 1), .int .i64 0, .int .i64 0]) d5
      rw [J40_2_eq]
      simp +contextual only [fput_some, Nat.reduceEqDiff, if_false, if_true, a0, stepK_ok, onOpK_val, d1, lA, hlen, bin_sub, hw, d2, lA3, sv_gp, sv_int, Bool.and_true, onStillK_true, bR, f1]
      exact ⟨_, M5, by rw [show gOk l g = true by simp [gOk, hc, hg]]; rfl, .inr ⟨_, rfl⟩, ((b2.trans c2).trans d4).trans f2, f3⟩
  · have hne : ((chk l : Int) != 0) = true := by rw [hc]; rfl
    rw [hne]
    simp only [condK_true, stepK_ok, onOpK_val, hc]
    exact ⟨_, M2, by rw [show gOk l g = false by simp [gOk, hc]]; rfl, .inl rfl, b2.trans c2, c3⟩

theorem con41 (C : Caller) (h84 : K84 C) {v : AVal} {l : List Tp} {lv : Int} {M : Mem} (hP : Tps M v l) (hf : M.Fine) (hl : l.length ≤ 100000) :
    ∃ p M', J41_0 C (argsF [v, .int .i64 lv]) M = some (.tuple [p, .int .i64 (if zOk l lv = true then 0 else 1)], M') ∧ PtrV p ∧ Gr M M' ∧ M'.Fine := by
  have a0 : argsF [v, .int .i64 lv] 0 = v := rfl
  have a1 : argsF [v, .int .i64 lv] 1 = .int .i64 lv := rfl
  obtain ⟨M2, c1, c2, c3⟩ := h84 v l M hf hP
  rw [J41_0_eq]
  simp +contextual only [fput_some, Nat.reduceEqDiff, if_false, if_true, a0, a1, stepK_ok, onOpK_val, onOpK_call, callK_some, c1, bin_neq]
  rcases chkT01 l with hc | hc
  · have hne : ((chkT l : Int) != 0) = false := by rw [hc]; rfl
    rw [hne]
    simp only [condK_false]
    rw [J41_1_eq]
    simp +contextual only [fput_some, Nat.reduceEqDiff, if_false, if_true, a1, stepK_ok, onOpK_val, bin_lss, bin_gtr, bin_geq, sel_t, sel_f, stepK_no, wantF, wantT, wantS, wantFc, wantTc, step_or, step_and, stepK_val, pick_b, sel_or, sel_and]
    have hz : zOk l lv = !(decide (lv < 0) || decide (lv > 64)) := by simp [zOk, hc]
    rw [hz]
    cases hg : (decide (lv < 0) || decide (lv > 64)) with
    | true =>
      simp only [condK_true, stepK_ok, onOpK_val]
      exact ⟨_, M2, rfl, .inl rfl, c2, c3⟩
    | false =>
      simp only [condK_false]
      have hP2 : Tps M2 v l := hP.ext hf c2
      have hlen : ∀ N, Go.VE.builtin prog N .len #[43] [v] = .val (.int .i64 (l.length : Int)) N := fun N => by have := hP2.len un43 N; simpa using this
      obtain ⟨a, M3, m1, m2, m3, m4, m5⟩ := OwnC.make (M := M2) c3 un217 zc4 by4 hl
      have bR := bR219 (hP2.ext c3 m3).plain m2.plain lv M3
      obtain ⟨M5, f1, f2, f3, f4, f5⟩ := new_ob (M := M3) (vs := [v, a, .int .i64 lv, .int .i64 0]) m4
      rw [J41_2_eq]
      simp +contextual only [fput_some, Nat.reduceEqDiff, if_false, if_true, a0, a1, stepK_ok, onOpK_val, hlen, m1, bR, f1]
      exact ⟨_, M5, rfl, .inr ⟨_, rfl⟩, (c2.trans m3).trans f2, f3⟩
  · have hne : ((chkT l : Int) != 0) = true := by rw [hc]; rfl
    rw [hne]
    simp only [condK_true, stepK_ok, onOpK_val, hc]
    exact ⟨_, M2, by rw [show zOk l lv = false by simp [zOk, hc]]; rfl, .inl rfl, c2, c3⟩
def K40 (C : Caller) : Prop := ∀ (v : AVal) (l : List Pt) (g : Gp) (M : Mem), M.Fine → Pts M v l → l.length ≤ 1000000 → ∃ p M', C 40 [v, .agg (gpRow g)] M = some (.tuple [p, .int .i64 (if gOk l g = true then 0 else 1)], M') ∧ PtrV p ∧ Gr M M' ∧ M'.Fine
def K41 (C : Caller) : Prop := ∀ (v : AVal) (l : List Tp) (lv : Int) (M : Mem), M.Fine → Tps M v l → l.length ≤ 100000 → ∃ p M', C 41 [v, .int .i64 lv] M = some (.tuple [p, .int .i64 (if zOk l lv = true then 0 else 1)], M') ∧ PtrV p ∧ Gr M M' ∧ M'.Fine
def K42 (C : Caller) : Prop := ∀ (y : Hr) (amb peak : Int) (M : Mem), M.Fine → ∃ M', C 42 [.agg (hrRow y), .int .i64 amb, .int .i64 peak] M = some (.tuple (susT y amb peak), M') ∧ Gr M M' ∧ M'.Fine
theorem k40 {L : Lib} (h : L 40 = none) (h1 : K83 (callW prog L)) : K40 (callW prog L) := fun v l g M hf hP hl => by rw [run40 h]; exact con40 _ h1 hP hf hl
theorem k41 {L : Lib} (h : L 41 = none) (h1 : K84 (callW prog L)) : K41 (callW prog L) := fun v l lv M hf hP hl => by rw [run41 h]; exact con41 _ h1 hP hf hl
theorem k42 {L : Lib} (h : L 42 = none) (h1 : K43 (callW prog L) validR) : K42 (callW prog L) := fun y amb peak M hf => by
  rw [run42 h]
  have := con42 (callW prog L) h1 y amb peak hf
  rw [valid_eq [y] [] amb (by simp)] at this
  exact this
end Go.Proofs.Tryz.W
namespace Go.Proofs.Tryz.W
attribute [local congr] stepK_cg onOpK_cg callK_cg condK_cg onStillK_cg

theorem zc115 : zeroCells prog 115 = some (1, [AVal.nilPtr]) := by kernel_rfl
theorem zc118 : zeroCells prog 118 = some (1, [AVal.nilPtr]) := by kernel_rfl
theorem zc3 : zeroCells prog 3 = some (1, [AVal.int .i64 0]) := by kernel_rfl
theorem by115 : Go.VE.bytes prog 115 = 8 := by kernel_rfl
theorem by118 : Go.VE.bytes prog 118 = 8 := by kernel_rfl
theorem by3 : Go.VE.bytes prog 3 = 8 := by kernel_rfl
def tRow (v : AVal) (amb lim bud : Int) (ht gs zs ts lo po : AVal) : List AVal := [v, .int .i64 amb, .int .i64 lim, .int .u64 bud, ht, gs, zs, ts, lo, po]

/-- A row of one cell, to append. -/
theorem row1c {M : Mem} {t e : TypeId} {z x : AVal} (ht : prog.underlying t = some (.slice e)) (hz : zeroCells prog e = some (1, [z])) (hx : Cell1 x) (hf : M.Fine) :
    ∃ M', evBuildSliceR prog M t 1 [(0, x)] = .val (.slice ⟨M.next, 0, 0, 1⟩ 1 1 1 true) M' ∧ Sl M' (.slice ⟨M.next, 0, 0, 1⟩ 1 1 1 true) 1 [[x]] ∧ Gr M M' ∧ M'.Fine ∧ M'.next = M.next + 1 := by
  have w := row1 (P := prog) (M := M) (t := t) (x := x) ht hz hx.1 (by rw [hx.2]; rfl) (by omega)
  rw [hx.2] at w
  exact ⟨_, w, row1_sl rfl, Gr.alloc _ _, hf.alloc _, rfl⟩

structure Inv44 (M0 M : Mem) (o : Nat) (v : AVal) (amb lim bud : Int) (ht gs zs ts lo po : AVal) (n : Nat) : Prop where
  low : M0.next ≤ o
  ob : M.get o = some (.cells (tRow v amb lim bud ht gs zs ts lo po) 0 0)
  tg : ∃ cs, TipX M gs 1 n cs
  tz : ∃ cs, TipX M zs 1 n cs
  tt : ∃ cs, TipX M ts 1 n cs
  bg : ∀ i, blk gs i → M0.next ≤ i ∧ i ≠ o
  bz : ∀ i, blk zs i → M0.next ≤ i ∧ i ≠ o ∧ ¬ blk gs i
  bt : ∀ i, blk ts i → M0.next ≤ i ∧ i ≠ o ∧ ¬ blk gs i ∧ ¬ blk zs i

theorem w44 (C : Caller) (h40 : K40 C) (h41 : K41 C) {M0 : Mem} (hf0 : M0.Fine) {v : AVal} {amb lim bud : Int} {ht lo po : AVal} {o : Nat} : ∀ (suf pre : List Bd) (e : FEnv) (M : Mem) (gs zs ts : AVal), Bds M0 v (pre ++ suf) → M.Fine → Gr M0 M → Inv44 M0 M o v amb lim bud ht gs zs ts lo po pre.length → e 0 = .ptr ⟨o, 0, 0, 10⟩ → e 2 = .int .i64 (pre.length : Int) → (pre ++ suf).length ≤ 1000 →
    ∃ M', W44_1 C e M = some (.tuple [], M') ∧ Gr M0 M' ∧ M'.Fine := by
  intro suf
  induction suf with
  | nil =>
    intro pre e M gs zs ts hP hf hg hI g0 g2 hl
    have hlen := (hP.ext hf0 hg).1.len un22 M
    simp only [List.append_nil, List.length_map] at hlen
    have m0 := (ob_el (n := 10) hI.ob rfl).load (P := prog) (t := 22) ag22 0 (v := v) rfl
    rw [W44_1_eq]
    simp +contextual only [fput_some, Nat.reduceEqDiff, if_false, if_true, g0, g2, stepK_ok, onOpK_val, nck, fa114_0, m0, hlen, bin_lss, Int.lt_irrefl, decide_false, condK_false]
    exact ⟨M, rfl, hg, hf⟩
  | cons b r ih =>
    intro pre e M gs zs ts hP hf hg hI g0 g2 hl
    have hPM := hP.ext hf0 hg
    have hlen := hPM.1.len un22 M
    simp only [List.length_map] at hlen
    have m0 := (ob_el (n := 10) hI.ob rfl).load (P := prog) (t := 22) ag22 0 (v := v) rfl
    obtain ⟨q, hp1, hp2⟩ := hPM.1.idx un22 sz45 (i := pre.length) (r := b.row) (by simp) M
    have l0 := hp2.loadAgg (P := prog) (t := 45) ag45 sz45
    obtain ⟨M1, M2, b1, b2, b3, b4, b5, _, hn2⟩ := box_agg (P := prog) (M := M) (t := 45) (vs := b.row) z45s z45l sz45 rfl (by omega) hf
    have hb : BdIn M2 b := (hPM.2 b (by simp)).ext hf b3
    have hlt : ((pre.length : Int) < ((pre ++ b :: r).length : Int)) := by simp; omega
    have hw : IntKind.i64.wrap ((pre.length : Int) + 1) = ((pre ++ [b]).length : Int) := by
      rw [wrap_i64 (by omega) (by simp at hl; omega)]; simp
    have x1 := b5.load (P := prog) (t := 42) ag42 2 (v := b.ps) rfl
    have x2 := b5.loadAggAt (P := prog) (t := 39) (n := 3) ag39 sz39 3 (by show 3 + 3 ≤ 7; omega)
    rw [show AVal.agg (((Bd.row b).drop 3).take 3) = .agg (gpRow b.g) from rfl] at x2
    obtain ⟨p, M3, c1, c2, c3, c4⟩ := h40 b.ps b.l b.g M2 b4 hb.1 (by have := hb.2.2.1; omega)
    have e3 := b5.ext b4 c3
    have y1 := e3.load (P := prog) (t := 43) ag43 6 (v := b.ts) rfl
    obtain ⟨p', M4, d1, d2, d3, d4⟩ := h41 b.ts b.tl 16 M3 c4 (hb.2.1.ext b4 c3) hb.2.2.2
    have e4 := e3.ext c4 d3
    have g24 := c3.trans d3
    have gM4 := b3.trans g24
    obtain ⟨cg, hcg⟩ := hI.tg
    obtain ⟨cz, hcz⟩ := hI.tz
    obtain ⟨ct, hct⟩ := hI.tt
    have ob4 := gM4.get hf hI.ob
    have o4 := ob_el (n := 10) ob4 rfl
    have u5 := o4.load (P := prog) (t := 111) ag111 5 (v := gs) rfl
    obtain ⟨M5, r1, r2, r3, r4, r5⟩ := row1c (M := M4) (t := 111) un111 zc115 c2.plain d4
    have o5 := o4.ext d4 r3
    have u6 := o5.load (P := prog) (t := 112) ag112 6 (v := zs) rfl
    obtain ⟨M6, s1, s2, s3, s4, s5⟩ := row1c (M := M5) (t := 112) un112 zc118 d2.plain r4
    have o6 := o5.ext r4 s3
    have u7 := o6.load (P := prog) (t := 48) ag48 7 (v := ts) rfl
    have e6 := (e4.ext d4 r3).ext r4 s3
    have x6 := e6.load (P := prog) (t := 42) ag42 2 (v := b.ps) rfl
    have hpl : ∀ N, Go.VE.builtin prog N .len #[42] [b.ps] = .val (.int .i64 (b.l.length : Int)) N := fun N => by have := hb.1.len un42 N; simpa using this
    have hw2 : IntKind.i64.wrap ((b.l.length : Int) - 1) = (b.l.length : Int) - 1 := wrap_i64 (by omega) (by have := hb.2.2.1; omega)
    obtain ⟨M7, t1, t2, t3, t4, t5⟩ := row1c (M := M6) (t := 48) (x := .int .i64 ((b.l.length : Int) - 1)) un48 zc3 ⟨rfl, rfl⟩ s4
    have g47 := (r3.trans s3).trans t3
    have g57 := s3.trans t3
    have n1 := ((r2.ext r4 s3).ext s4 t3).news
    have n2 := (s2.ext s4 t3).news
    have n3 := t2.news
    rw [flat_one] at n1 n2 n3
    have gM7 := gM4.trans g47
    have lg : ∀ i, blk gs i → i < M.next := fun i hi => hcg.blk_lt hf hi
    have lz : ∀ i, blk zs i → i < M.next := fun i hi => hcz.blk_lt hf hi
    have lt : ∀ i, blk ts i → i < M.next := fun i hi => hct.blk_lt hf hi
    have lob := hf _ _ hI.ob
    have L1 := b3.next; have L2 := g24.next; have L3 := gM4.next; have L4 := gM7.next; have L5 := r3.next; have L6 := s3.next; have L7 := t3.next
    have f115 := fits_of (e := 115) by115 (by omega) (m := 1000000) (n := pre.length + 1) (by omega) (by simp at hl; omega)
    have f118 := fits_of (e := 118) by118 (by omega) (m := 1000000) (n := pre.length + 1) (by omega) (by simp at hl; omega)
    have f3 := fits_of (e := 3) by3 (by omega) (m := 1000000) (n := pre.length + 1) (by omega) (by simp at hl; omega)
    obtain ⟨gs', M8, p1, p2, p3, p4, p5⟩ := (hcg.ext hf gM7).push (P := prog) (t1 := 111) (m := 1) t4 un111 zc115 (by omega) (by omega) n1 rfl f115 (fits_of by115 (by omega) (m := 1000000) (by omega) (by omega)) un111 (fun k hk => by cases hk)
    have z8 : TipX M8 zs 1 pre.length cz := (hcz.ext hf gM7).frs t4 p3 (fun i hi => (hI.bz i hi).2.2)
    have n2' := (Sl.frs (s2.ext s4 t3) t4 p3 (fun i hi hs => by have := lg i hs; have h2 := blk_slice hi; simp only at h2; omega)).news
    rw [flat_one] at n2'
    obtain ⟨zs', M9, q1, q2, q3, q4, q5⟩ := z8.push (P := prog) (t1 := 112) (m := 1) p4 un112 zc118 (by omega) (by omega) n2' rfl f118 (fits_of by118 (by omega) (m := 1000000) (by omega) (by omega)) un112 (fun k hk => by cases hk)
    have t8 : TipX M8 ts 1 pre.length ct := (hct.ext hf gM7).frs t4 p3 (fun i hi => (hI.bt i hi).2.2.1)
    have t9 : TipX M9 ts 1 pre.length ct := t8.frs p4 q3 (fun i hi => (hI.bt i hi).2.2.2)
    have n3' := (Sl.frs (Sl.frs t2 t4 p3 (fun i hi hs => by have := lg i hs; have h2 := blk_slice hi; simp only at h2; omega)) p4 q3 (fun i hi hs => by have := lz i hs; have h2 := blk_slice hi; simp only at h2; omega)).news
    rw [flat_one] at n3'
    obtain ⟨ts', M10, v1, v2, v3, v4, v5⟩ := t9.push (P := prog) (t1 := 48) (m := 1) q4 un48 zc3 (by omega) (by omega) n3' rfl f3 (fits_of by3 (by omega) (m := 1000000) (by omega) (by omega)) un48 (fun k hk => by cases hk)
    have ob7 := gM7.get hf hI.ob
    have ob8 := p3.get t4 ob7 (fun h => (hI.bg o h).2 rfl)
    have ob9 := q3.get p4 ob8 (fun h => (hI.bz o h).2.1 rfl)
    have ob10 := v3.get q4 ob9 (fun h => (hI.bt o h).2.1 rfl)
    have e7 := e6.ext s4 t3
    have e8 := e7.frs t4 p3 (fun h => by have := lg _ h; simp only at this; omega)
    have e9 := e8.frs p4 q3 (fun h => by have := lz _ h; simp only at this; omega)
    have x8 := e8.load (P := prog) (t := 42) ag42 2 (v := b.ps) rfl
    have x9 := e9.load (P := prog) (t := 42) ag42 2 (v := b.ps) rfl
    have a8 := (ob_el (n := 10) ob8 rfl).load (P := prog) (t := 48) ag48 7 (v := ts) rfl
    have b8 := (ob_el (n := 10) ob8 rfl).load (P := prog) (t := 112) ag112 6 (v := zs) rfl
    have a9 := (ob_el (n := 10) ob9 rfl).load (P := prog) (t := 48) ag48 7 (v := ts) rfl
    have k1 := ob_store (P := prog) (n := 10) (i := 5) (t := 111) (x := gs') ob10 rfl sz111 (by omega) p2.plain.1 p2.plain.2
    have obA : (M10.set o (.cells ((tRow v amb lim bud ht gs zs ts lo po).set 5 gs') 0 0)).get o = some (.cells ((tRow v amb lim bud ht gs zs ts lo po).set 5 gs') 0 0) := by rw [Mem.get_set, if_pos rfl]
    have k2 := ob_store (P := prog) (n := 10) (i := 6) (t := 112) (x := zs') obA rfl sz112 (by omega) q2.plain.1 q2.plain.2
    rw [Mem.set_set] at k2
    have obB : (M10.set o (.cells (((tRow v amb lim bud ht gs zs ts lo po).set 5 gs').set 6 zs') 0 0)).get o = some (.cells (((tRow v amb lim bud ht gs zs ts lo po).set 5 gs').set 6 zs') 0 0) := by rw [Mem.get_set, if_pos rfl]
    have k3 := ob_store (P := prog) (n := 10) (i := 7) (t := 48) (x := ts') obB rfl sz48 (by omega) v2.plain.1 v2.plain.2
    rw [Mem.set_set] at k3
    have hrow : (((tRow v amb lim bud ht gs zs ts lo po).set 5 gs').set 6 zs').set 7 ts' = tRow v amb lim bud ht gs' zs' ts' lo po := rfl
    rw [hrow] at k3
    have L8 := p3.next; have L9 := q3.next; have L10 := v3.next; have L0 := hg.next; have Lo := hI.low
    have hbg : ∀ i, blk gs' i → M0.next ≤ i ∧ i ≠ o := fun i hi => by
      rcases p5 i hi with h | h
      · exact hI.bg i h
      · exact ⟨by omega, by omega⟩
    have hlg : ∀ i, blk gs' i → i < M8.next := fun i hi => p2.blk_lt p4 hi
    have hlz : ∀ i, blk zs' i → i < M9.next := fun i hi => q2.blk_lt q4 hi
    have hbz : ∀ i, blk zs' i → M0.next ≤ i ∧ i ≠ o ∧ ¬ blk gs' i := fun i hi => by
      rcases q5 i hi with h | h
      · refine ⟨(hI.bz i h).1, (hI.bz i h).2.1, fun h' => ?_⟩
        rcases p5 i h' with h'' | h''
        · exact (hI.bz i h).2.2 h''
        · have := lz i h; omega
      · refine ⟨by omega, by omega, fun h' => ?_⟩
        have := hlg i h'; omega
    have hbt : ∀ i, blk ts' i → M0.next ≤ i ∧ i ≠ o ∧ ¬ blk gs' i ∧ ¬ blk zs' i := fun i hi => by
      rcases v5 i hi with h | h
      · refine ⟨(hI.bt i h).1, (hI.bt i h).2.1, fun h' => ?_, fun h' => ?_⟩
        · rcases p5 i h' with h'' | h''
          · exact (hI.bt i h).2.2.1 h''
          · have := lt i h; omega
        · rcases q5 i h' with h'' | h''
          · exact (hI.bt i h).2.2.2 h''
          · have := lt i h; omega
      · refine ⟨by omega, by omega, fun h' => ?_, fun h' => ?_⟩
        · have := hlg i h'; omega
        · have := hlz i h'; omega
    have fr11 : FrS (· = o) M10 (M10.set o (.cells (tRow v amb lim bud ht gs' zs' ts' lo po) 0 0)) := FrS.set (S := (· = o)) (id := o) FrS.refl (.inr rfl) _
    have f11 : (M10.set o (.cells (tRow v amb lim bud ht gs' zs' ts' lo po) 0 0)).Fine := v4.set (v4 _ _ ob10) _
    have offz : Off (blk zs) gs' := fun i hi h => by
      rcases p5 i hi with h1 | h1
      · exact (hI.bz i h).2.2 h1
      · have := lz i h; omega
    have offt : Off (blk ts) gs' := fun i hi h => by
      rcases p5 i hi with h1 | h1
      · exact (hI.bt i h).2.2.1 h1
      · have := lt i h; omega
    have offt2 : Off (blk ts) zs' := fun i hi h => by
      rcases q5 i hi with h1 | h1
      · exact (hI.bt i h).2.2.2 h1
      · have := lt i h; omega
    have hI' : Inv44 M0 (M10.set o (.cells (tRow v amb lim bud ht gs' zs' ts' lo po) 0 0)) o v amb lim bud ht gs' zs' ts' lo po (pre ++ [b]).length := by
      rw [show (pre ++ [b]).length = pre.length + 1 by simp]
      exact ⟨hI.low, by rw [Mem.get_set, if_pos rfl], ⟨_, ((p2.frs p4 q3 offz).frs q4 v3 offt).frs v4 fr11 (fun i hi h => (hbg i hi).2 h)⟩, ⟨_, (q2.frs q4 v3 offt2).frs v4 fr11 (fun i hi h => (hbz i hi).2.1 h)⟩, ⟨_, v2.frs v4 fr11 (fun i hi h => (hbt i hi).2.1 h)⟩, hbg, hbz, hbt⟩
    have g011 : Gr M0 (M10.set o (.cells (tRow v amb lim bud ht gs' zs' ts' lo po) 0 0)) := by
      have h2 : FrS (fun i => M0.next ≤ i) M0 M10 := (((FrS.of (hg.trans gM7)).cat p3 (fun i _ hi => (hI.bg i hi).1)).cat q3 (fun i _ hi => (hI.bz i hi).1)).cat v3 (fun i _ hi => (hI.bt i hi).1)
      exact (h2.set (.inr hI.low) _).gr (fun i hi h => by omega)
    have svps : ∀ N, sameVal b.ps (.val b.ps N) = true := fun N => (slV_sl hb.1).sv N
    have svzs : ∀ N, sameVal zs (.val zs N) = true := fun N => (slV_tip hcz).sv N
    have svts : ∀ N, sameVal ts (.val ts N) = true := fun N => (slV_tip hct).sv N
    rw [W44_1_eq]
    simp +contextual only [fput_some, Nat.reduceEqDiff, if_false, if_true, g0, g2, stepK_ok, onOpK_val, nck, fa114_0, m0, hlen, bin_lss, decide_eq_true hlt, condK_true]
    rw [J44_2_eq]
    simp +contextual (maxSteps := 5000000) only [fput_some, Nat.reduceEqDiff, if_false, if_true, g0, g2, stepK_ok, onOpK_val, nck, fa114_0, fa114_5, fa114_6, fa114_7, m0, hp1, l0, b1, b2, fa45_1, fa45_2, fa45_3, x1, x2, onOpK_call, c1, callK_some, evExtract_tuple, List.getElem?_cons_zero, List.getElem?_cons_succ, ofOpt_some, y1, d1, u5, r1, u6, s1, u7, x6, hpl, bin_sub, hw2, t1, p1, sv_int, svps, svzs, svts, x8, a8, b8, x9, a9, Bool.and_true, onStillK_true, q1, v1, k1, k2, k3]
    rw [J44_3_eq]
    simp only [fput_some, Nat.reduceEqDiff, if_false, if_true, g2, stepK_ok, onOpK_val, bin_add, hw]
    refine ih (pre ++ [b]) _ _ gs' zs' ts' (by simpa using hP) f11 g011 hI' ?_ ?_ (by simpa using hl) <;> simp only [fput_some, Nat.reduceEqDiff, if_false, if_true, g0]
end Go.Proofs.Tryz.W
namespace Go.Proofs.Tryz.W
attribute [local congr] stepK_cg onOpK_cg callK_cg condK_cg onStillK_cg

def K44 (C : Caller) : Prop := ∀ (M0 M : Mem) (v : AVal) (bs : List Bd) (o : Nat) (amb lim bud : Int) (ht gs zs ts lo po : AVal), M0.Fine → Gr M0 M → M.Fine → Bds M0 v bs → bs.length ≤ 1000 → M0.next ≤ o → M.get o = some (.cells (tRow v amb lim bud ht gs zs ts lo po) 0 0) →
    ∃ M', C 44 [.ptr ⟨o, 0, 0, 10⟩] M = some (.tuple [], M') ∧ Gr M0 M' ∧ M'.Fine
theorem con44 (C : Caller) (h40 : K40 C) (h41 : K41 C) {M0 M : Mem} {v : AVal} {bs : List Bd} {o : Nat} {amb lim bud : Int} {ht gs zs ts lo po : AVal} (hf0 : M0.Fine) (hg : Gr M0 M) (hf : M.Fine) (hP : Bds M0 v bs) (hl : bs.length ≤ 1000) (ho : M0.next ≤ o) (hO : M.get o = some (.cells (tRow v amb lim bud ht gs zs ts lo po) 0 0)) :
    ∃ M', J44_0 C (argsF [.ptr ⟨o, 0, 0, 10⟩]) M = some (.tuple [], M') ∧ Gr M0 M' ∧ M'.Fine := by
  have a0 : argsF [.ptr ⟨o, 0, 0, 10⟩] 0 = .ptr ⟨o, 0, 0, 10⟩ := rfl
  have k1 := ob_store (P := prog) (n := 10) (i := 5) (t := 111) (x := .nilSlice) hO rfl sz111 (by omega) rfl rfl
  have obA : (M.set o (.cells ((tRow v amb lim bud ht gs zs ts lo po).set 5 .nilSlice) 0 0)).get o = some (.cells ((tRow v amb lim bud ht gs zs ts lo po).set 5 .nilSlice) 0 0) := by rw [Mem.get_set, if_pos rfl]
  have k2 := ob_store (P := prog) (n := 10) (i := 6) (t := 112) (x := .nilSlice) obA rfl sz112 (by omega) rfl rfl
  rw [Mem.set_set] at k2
  have obB : (M.set o (.cells (((tRow v amb lim bud ht gs zs ts lo po).set 5 .nilSlice).set 6 .nilSlice) 0 0)).get o = some (.cells (((tRow v amb lim bud ht gs zs ts lo po).set 5 .nilSlice).set 6 .nilSlice) 0 0) := by rw [Mem.get_set, if_pos rfl]
  have k3 := ob_store (P := prog) (n := 10) (i := 7) (t := 48) (x := .nilSlice) obB rfl sz48 (by omega) rfl rfl
  rw [Mem.set_set] at k3
  have hrow : (((tRow v amb lim bud ht gs zs ts lo po).set 5 .nilSlice).set 6 .nilSlice).set 7 .nilSlice = tRow v amb lim bud ht .nilSlice .nilSlice .nilSlice lo po := rfl
  rw [hrow] at k3
  rw [J44_0_eq]
  simp +contextual only [fput_some, Nat.reduceEqDiff, if_false, if_true, a0, stepK_ok, onOpK_val, nck, fa114_5, fa114_6, fa114_7, k1, k2, k3]
  refine w44 C h40 h41 hf0 (v := v) (amb := amb) (lim := lim) (bud := bud) (ht := ht) (lo := lo) (po := po) (o := o) bs [] _ _ .nilSlice .nilSlice .nilSlice hP (hf.set (hf _ _ hO) _) (hg.set ho _) ⟨ho, by rw [Mem.get_set, if_pos rfl], ⟨[], .nil⟩, ⟨[], .nil⟩, ⟨[], .nil⟩, fun i hi => (blk_nil hi).elim, fun i hi => (blk_nil hi).elim, fun i hi => (blk_nil hi).elim⟩ ?_ ?_ hl <;> simp only [fput_some, Nat.reduceEqDiff, if_false, if_true, a0] <;> rfl
theorem k44 {L : Lib} (h : L 44 = none) (h40 : K40 (callW prog L)) (h41 : K41 (callW prog L)) : K44 (callW prog L) := fun M0 M v bs o amb lim bud ht gs zs ts lo po hf0 hg hf hP hl ho hO => by
  rw [run44 h]; exact con44 _ h40 h41 hf0 hg hf hP hl ho hO

structure Inv12 (M0 M : Mem) (o : Nat) (h : AVal) (n : Nat) (hs : List Hr) (row : List AVal) : Prop where
  low : M0.next ≤ o
  ob : M.get o = some (.cells row 0 0)
  th : TipX M h 2 n (hs.map hrRow).flatten
  bh : ∀ i, blk h i → M0.next ≤ i ∧ i ≠ o

theorem w12 (C : Caller) (h40 : K40 C) (h41 : K41 C) (h42 : K42 C) {M0 : Mem} (hf0 : M0.Fine) {v : AVal} {amb lim : Int} {o : Nat} {row : List AVal} : ∀ (suf pre : List Bd) (e : FEnv) (M : Mem) (h : AVal), Bds M0 v (pre ++ suf) → M.Fine → Gr M0 M → Inv12 M0 M o h pre.length (pre.map Bd.y) row → e 0 = v → e 2 = .int .i64 amb → e 3 = .int .i64 lim → e 13 = h → e 14 = .int .i64 (pre.length : Int) → (pre ++ suf).length ≤ 1000 →
    (suf.all (bOk amb lim) = false ∧ ∃ M', W12_3 C e M = some (.tuple [.nilPtr, .int .i64 1], M') ∧ Gr M0 M' ∧ M'.Fine) ∨
    (suf.all (bOk amb lim) = true ∧ ∃ e' M' h', W12_3 C e M = J12_2 C e' M' ∧ Gr M0 M' ∧ M'.Fine ∧ Inv12 M0 M' o h' (pre ++ suf).length ((pre ++ suf).map Bd.y) row ∧ e' 0 = e 0 ∧ e' 1 = e 1 ∧ e' 2 = e 2 ∧ e' 12 = e 12 ∧ e' 13 = h') := by
  intro suf
  induction suf with
  | nil =>
    intro pre e M h hP hf hg hI g0 g2 g3 g13 g14 hl
    right
    have hlen := (hP.ext hf0 hg).1.len un22 M
    simp only [List.append_nil, List.length_map] at hlen
    rw [W12_3_eq]
    simp only [fput_some, Nat.reduceEqDiff, if_false, g0, g14, stepK_ok, onOpK_val, hlen, bin_lss, Int.lt_irrefl, decide_false, condK_false]
    refine ⟨rfl, _, M, h, rfl, hg, hf, by simpa using hI, ?_, ?_, ?_, ?_, ?_⟩ <;> simp only [fput_some, Nat.reduceEqDiff, if_false, g0, g13]
  | cons b r ih =>
    intro pre e M h hP hf hg hI g0 g2 g3 g13 g14 hl
    have hPM := hP.ext hf0 hg
    have hlen := hPM.1.len un22 M
    simp only [List.length_map] at hlen
    obtain ⟨q, hp1, hp2⟩ := hPM.1.idx un22 sz45 (i := pre.length) (r := b.row) (by simp) M
    have l0 := hp2.loadAgg (P := prog) (t := 45) ag45 sz45
    obtain ⟨M1, M2, b1, b2, b3, b4, b5, _, hn2⟩ := box_agg (P := prog) (M := M) (t := 45) (vs := b.row) z45s z45l sz45 rfl (by omega) hf
    have hb : BdIn M2 b := (hPM.2 b (by simp)).ext hf b3
    have hlt : ((pre.length : Int) < ((pre ++ b :: r).length : Int)) := by simp; omega
    have hw : IntKind.i64.wrap ((pre.length : Int) + 1) = ((pre ++ [b]).length : Int) := by
      rw [wrap_i64 (by omega) (by simp at hl; omega)]; simp
    have x1 := b5.load (P := prog) (t := 42) ag42 2 (v := b.ps) rfl
    have x2 := b5.loadAggAt (P := prog) (t := 39) (n := 3) ag39 sz39 3 (by show 3 + 3 ≤ 7; omega)
    rw [show AVal.agg (((Bd.row b).drop 3).take 3) = .agg (gpRow b.g) from rfl] at x2
    obtain ⟨p, M3, c1, c2, c3, c4⟩ := h40 b.ps b.l b.g M2 b4 hb.1 (by have := hb.2.2.1; omega)
    have e3 := b5.ext b4 c3
    have y1 := e3.load (P := prog) (t := 43) ag43 6 (v := b.ts) rfl
    obtain ⟨p', M4, d1, d2, d3, d4⟩ := h41 b.ts b.tl 16 M3 c4 (hb.2.1.ext b4 c3) hb.2.2.2
    have e4 := e3.ext c4 d3
    have y2 := e4.loadAggAt (P := prog) (t := 41) (n := 2) ag41 sz41 0 (by show 0 + 2 ≤ 7; omega)
    rw [show AVal.agg (((Bd.row b).drop 0).take 2) = .agg (hrRow b.y) from rfl] at y2
    obtain ⟨M5, i1, i2, i3⟩ := h42 b.y amb lim M4 d4
    have e5 := e4.ext d4 i2
    have gM5 := ((b3.trans c3).trans d3).trans i2
    rw [W12_3_eq]
    simp only [fput_some, Nat.reduceEqDiff, if_false, g0, g14, stepK_ok, onOpK_val, hlen, bin_lss, decide_eq_true hlt, condK_true]
    rw [J12_6_eq]
    have hbok : bOk amb lim b = (susOk b.y amb lim && (gOk b.l b.g && zOk b.tl 16)) := rfl
    have ext0 : ∀ N, evExtract N (.tuple (susT b.y amb lim)) 0 = .val (if susOk b.y amb lim = true then .int .i64 (susV b.y amb lim) else .int .i64 0) N := fun N => by unfold susT; cases susOk b.y amb lim <;> exact Eq.trans rfl rfl
    have ext1 : ∀ N, evExtract N (.tuple (susT b.y amb lim)) 1 = .val (.int .i64 (if susOk b.y amb lim = true then 0 else 1)) N := fun N => by unfold susT; cases susOk b.y amb lim <;> exact Eq.trans rfl rfl
    have exA0 : ∀ N, evExtract N (.tuple [p, .int .i64 (if gOk b.l b.g = true then 0 else 1)]) 0 = .val p N := fun N => Eq.trans rfl rfl
    have exA1 : ∀ N, evExtract N (.tuple [p, .int .i64 (if gOk b.l b.g = true then 0 else 1)]) 1 = .val (.int .i64 (if gOk b.l b.g = true then 0 else 1)) N := fun N => Eq.trans rfl rfl
    have exB0 : ∀ N, evExtract N (.tuple [p', .int .i64 (if zOk b.tl 16 = true then 0 else 1)]) 0 = .val p' N := fun N => Eq.trans rfl rfl
    have exB1 : ∀ N, evExtract N (.tuple [p', .int .i64 (if zOk b.tl 16 = true then 0 else 1)]) 1 = .val (.int .i64 (if zOk b.tl 16 = true then 0 else 1)) N := fun N => Eq.trans rfl rfl
    have nz : ∀ x : Bool, ((if x = true then (0 : Int) else 1) != 0) = !x := fun x => by cases x <;> rfl
    simp +contextual (maxSteps := 5000000) only [fput_some, Nat.reduceEqDiff, if_false, if_true, g0, g2, g3, g14, stepK_ok, onOpK_val, hp1, l0, b1, b2, fa45_0, fa45_1, fa45_2, fa45_3, x1, x2, onOpK_call, c1, callK_some, exA0, exA1, exB0, exB1, ext0, ext1, y1, d1, y2, i1, bin_neq, nz, sel_t, sel_f, stepK_no, wantF, wantT, wantS, wantFc, wantTc, step_or, step_and, stepK_val, pick_b, sel_or, sel_and]
    have hbk : (!gOk b.l b.g || !zOk b.tl 16 || !susOk b.y amb lim) = !bOk amb lim b := by
      rw [hbok]; cases gOk b.l b.g <;> cases zOk b.tl 16 <;> cases susOk b.y amb lim <;> rfl
    rw [hbk]
    cases hk : bOk amb lim b with
    | false =>
      left
      simp only [Bool.not_false, condK_true, stepK_ok, onOpK_val]
      exact ⟨by rw [List.all_cons, hk]; rfl, M5, rfl, hg.trans gM5, i3⟩
    | true =>
      simp only [Bool.not_true, condK_false]
      have m2 := e5.loadAggAt (P := prog) (t := 41) (n := 2) ag41 sz41 0 (by show 0 + 2 ≤ 7; omega)
      rw [show AVal.agg (((Bd.row b).drop 0).take 2) = .agg (hrRow b.y) from rfl] at m2
      have w2 := row1 (P := prog) (M := M5) (t := 104) (x := .agg (hrRow b.y)) un104 zc41 rfl rfl (by omega)
      have s2 : Sl (M5.alloc (.cells (hrRow b.y) 0 0)) (.slice ⟨M5.next, 0, 0, 2⟩ 2 1 1 true) 2 [hrRow b.y] := row1_sl rfl
      have f6 : (M5.alloc (.cells (hrRow b.y) 0 0)).Fine := i3.alloc _
      have g56 : Gr M5 (M5.alloc (.cells (hrRow b.y) 0 0)) := Gr.alloc M5 _
      generalize hM6 : M5.alloc (.cells (hrRow b.y) 0 0) = M6 at s2 f6 g56
      have w2' : evBuildSliceR prog M5 104 1 [(0, .agg (hrRow b.y))] = .val (.slice ⟨M5.next, 0, 0, 2⟩ 2 1 1 true) M6 := by rw [w2, ← hM6]; rfl
      have n2 := s2.news
      rw [flat_one] at n2
      have gM6 := gM5.trans g56
      obtain ⟨h', M7, q1, q2, q3, q4, q5⟩ := (hI.th.ext hf gM6).push (P := prog) (t1 := 104) (m := 1) f6 un104 zc41 (by omega) (by omega) n2 rfl (fits_of by41 (by omega) (m := 1000000) (by omega) (by simp at hl; omega)) (fits_of by41 (by omega) (m := 1000000) (by omega) (by omega)) un104 (fun k hk => by cases hk)
      have ob7 := q3.get f6 (gM6.get hf hI.ob) (fun h => (hI.bh o h).2 rfl)
      have L1 := hg.next; have L2 := gM6.next; have L3 := hI.low; have L4 := hf _ _ hI.ob
      have hI' : Inv12 M0 M7 o h' (pre ++ [b]).length ((pre ++ [b]).map Bd.y) row := by
        refine ⟨hI.low, ob7, by simpa using q2, fun i hi => ?_⟩
        rcases q5 i hi with h1 | h1
        · exact hI.bh i h1
        · exact ⟨by omega, by omega⟩
      have g07 : Gr M0 M7 := ((FrS.of (S := fun i => M0.next ≤ i) (hg.trans gM6)).cat q3 (fun i _ hi => (hI.bh i hi).1)).gr (fun i hi h => by omega)
      have key := fun E x0 x2 x3 x13 x14 => ih (pre ++ [b]) E M7 h' (by simpa using hP) q4 g07 hI' x0 x2 x3 x13 x14 (by simpa using hl)
      rw [show pre ++ b :: r = (pre ++ [b]) ++ r by simp]
      rw [J12_8_eq]
      simp +contextual only [fput_some, Nat.reduceEqDiff, if_false, if_true, g0, g2, g3, g13, g14, stepK_ok, onOpK_val, fa45_0, m2, w2', q1]
      rw [J12_7_eq]
      simp only [fput_some, Nat.reduceEqDiff, if_false, if_true, g14, stepK_ok, onOpK_val, bin_add, hw]
      rw [List.all_cons, hk, Bool.true_and]
      refine Or.imp id (And.imp_right (Exists.imp fun e' h => Exists.imp (fun M' h => Exists.imp (fun h1 h => ⟨h.1, h.2.1, h.2.2.1, h.2.2.2.1, h.2.2.2.2.1.trans ?_, h.2.2.2.2.2.1.trans ?_, h.2.2.2.2.2.2.1.trans ?_, h.2.2.2.2.2.2.2.1.trans ?_, h.2.2.2.2.2.2.2.2⟩) h) h)) (key _ ?_ ?_ ?_ ?_ ?_) <;> simp only [fput_some, Nat.reduceEqDiff, if_false, if_true, g0, g2, g3]
end Go.Proofs.Tryz.W
namespace Go.Proofs.Tryz.W
attribute [local congr] stepK_cg onOpK_cg callK_cg condK_cg onStillK_cg

theorem zc2' : zeroCells prog 2 = some (1, [AVal.int .i64 0]) := by kernel_rfl
theorem bR114 {v lo po : AVal} (hv : Cell1 v) (hl : Cell1 lo) (hp : Cell1 po) (amb lim bud : Int) (M : Mem) : evBuildR prog M 114 [(0, v), (1, .int .i64 amb), (2, .int .i64 lim), (3, .int .u64 bud), (8, lo), (9, po)] = .val (.agg (tRow v amb lim bud .nilPtr .nilSlice .nilSlice .nilSlice lo po)) M := by
  rw [build_eq zr114 pl114]; simp [fillV, listAt, hv.1, hv.2, hl.1, hl.2, hp.1, hp.2, overlay, evAgg, solid_int, cells_int, tRow]

def K43p (C : Caller) : Prop := ∀ (v w : AVal) (hs : List Hr) (ls : List Lk) (amb : Int) (M : Mem), M.Fine → Hrs M v hs → Lks M w ls → hs.length ≤ 1000000 → ls.length ≤ 1000000 → ∃ p M', C 43 [v, w, .int .i64 amb] M = some (.tuple [p, .int .i64 (if validR hs ls amb = true then 0 else 1)], M') ∧ Gr M M' ∧ M'.Fine ∧ PtrV p
theorem k43p {L : Lib} (h : L 43 = none) (h85 : K85 (callW prog L) validR) : K43p (callW prog L) := fun v w hs ls amb M hf hP hQ hh hl => by
  rw [run43 h]
  rcases con43 (callW prog L) h85 hP hQ hf hh hl (amb := amb) with ⟨hv, M', h1, h2, h3⟩ | ⟨hv, M', o, h1, h2, h3, _⟩
  · exact ⟨_, M', by rw [h1, hv]; rfl, h2, h3, .inl rfl⟩
  · exact ⟨_, M', by rw [h1, hv]; rfl, h2, h3, .inr ⟨_, rfl⟩⟩

theorem con12 (C : Caller) (h40 : K40 C) (h41 : K41 C) (h42 : K42 C) (h43 : K43p C) (h44 : K44 C) {v w : AVal} {bs : List Bd} {ls : List Lk} {amb lim bud : Int} {M : Mem} (hf : M.Fine) (hP : Bds M v bs) (hQ : Lks M w ls) (hbl : bs.length ≤ 1000000) (hls : ls.length ≤ 1000000) :
    ∃ M' p, J12_0 C (argsF [v, w, .int .i64 amb, .int .i64 lim, .int .u64 bud]) M = some (.tuple [p, .int .i64 (if tOk bs ls amb lim bud = true then 0 else 1)], M') ∧ Gr M M' ∧ M'.Fine := by
  generalize ha : argsF [v, w, .int .i64 amb, .int .i64 lim, .int .u64 bud] = A
  have a0 : A 0 = v := by rw [← ha]; rfl
  have a1 : A 1 = w := by rw [← ha]; rfl
  have a2 : A 2 = .int .i64 amb := by rw [← ha]; rfl
  have a3 : A 3 = .int .i64 lim := by rw [← ha]; rfl
  have a4 : A 4 = .int .u64 bud := by rw [← ha]; rfl
  have hlen : ∀ N, Go.VE.builtin prog N .len #[22] [v] = .val (.int .i64 (bs.length : Int)) N := fun N => by have := hP.1.len un22 N; simpa using this
  have hlen2 : ∀ N, Go.VE.builtin prog N .len #[23] [w] = .val (.int .i64 (ls.length : Int)) N := fun N => by have := hQ.len un23 N; simpa using this
  rw [J12_0_eq]
  simp +contextual only [fput_some, Nat.reduceEqDiff, if_false, if_true, a0, a1, a2, a3, a4, stepK_ok, onOpK_val, hlen, hlen2, bin_lss, bin_gtr, bin_eql, sel_t, sel_f, stepK_no, wantF, wantT, wantS, wantFc, wantTc, step_or, step_and, stepK_val, pick_b, sel_or, sel_and]
  rw [sel_oa]
  have hb : (decide ((bs.length : Int) > 8) || decide (bud > 4294967296) || (((bs.length : Int) == 0) && decide ((ls.length : Int) > 0))) = badN bs.length ls.length bud := rfl
  rw [hb]
  cases hB : badN bs.length ls.length bud with
  | true =>
    simp only [condK_true, stepK_ok, onOpK_val]
    exact ⟨M, _, by rw [show tOk bs ls amb lim bud = false by simp [tOk, hB]]; rfl, Gr.refl M, hf⟩
  | false =>
    simp only [condK_false]
    have hn : bs.length ≤ 8 := by simp only [badN, Bool.or_eq_false_iff, decide_eq_false_iff_not] at hB; omega
    have htk : tOk bs ls amb lim bud = (bs.all (bOk amb lim) && (((bs.length : Int) == 0) || validH (bs.map Bd.y) ls amb)) := by simp [tOk, hB]
    rw [htk]
    obtain ⟨lo, M1, m1, m2, m3, m4, m5⟩ := OwnC.make (M := M) hf un48 zc3 (by rw [by3]; omega) (n := bs.length) (by omega)
    obtain ⟨po, M2, p1, p2, p3, p4, p5⟩ := OwnC.make (M := M1) m4 un56 zc2' (by rw [by2]; omega) (n := bs.length) (by omega)
    have gM2 := m3.trans p3
    obtain ⟨M3, b1, b2, b3, b4, b5⟩ := new_ob (M := M2) (vs := tRow v amb lim bud .nilPtr .nilSlice .nilSlice .nilSlice lo po) p4
    have b1' : evNew M2 (.agg (tRow v amb lim bud .nilPtr .nilSlice .nilSlice .nilSlice lo po)) = .val (.ptr ⟨M2.next, 0, 0, 10⟩) M3 := b1
    have bR := bR114 hP.1.plain m2.plain p2.plain amb lim bud M2
    have L := gM2.next
    have hI : Inv12 M M3 M2.next .nilSlice 0 [] (tRow v amb lim bud .nilPtr .nilSlice .nilSlice .nilSlice lo po) := ⟨L, b4, .nil, fun i hi => (blk_nil hi).elim⟩
    rw [J12_1_eq]
    have tail : ∀ E : FEnv, E 0 = v → E 1 = w → E 2 = .int .i64 amb → E 3 = .int .i64 lim → E 12 = .ptr ⟨M2.next, 0, 0, 10⟩ → E 13 = .nilSlice → E 14 = .int .i64 ((0 : Nat) : Int) →
        ∃ M' p, W12_3 C E M3 = some (.tuple [p, .int .i64 (if (bs.all (bOk amb lim) && (((bs.length : Int) == 0) || validH (bs.map Bd.y) ls amb)) = true then 0 else 1)], M') ∧ Gr M M' ∧ M'.Fine := by
      intro E x0 x1 x2 x3 x12 x13 x14
      rcases w12 C h40 h41 h42 hf (v := v) (amb := amb) (lim := lim) (o := M2.next) (row := tRow v amb lim bud .nilPtr .nilSlice .nilSlice .nilSlice lo po) bs [] E M3 .nilSlice hP b3 (gM2.trans b2) hI x0 x2 x3 x13 x14 (by simp; omega) with ⟨h1, M4, h2, h3, h4⟩ | ⟨h1, e', M4, h', h2, h3, h4, h5, y0, y1, y2, y12, y13⟩
      · exact ⟨M4, _, by rw [h1, h2]; rfl, h3, h4⟩
      · rw [h1, h2, J12_2_eq]
        rw [x0] at y0; rw [x1] at y1; rw [x2] at y2; rw [x12] at y12
        simp only [fput_some, Nat.reduceEqDiff, if_false, if_true, y0, stepK_ok, onOpK_val, hlen, bin_gtr, Bool.true_and]
        cases hz : ((bs.length : Int) == 0) with
        | true =>
          have hz' : (decide ((bs.length : Int) > 0)) = false := by simp only [beq_iff_eq] at hz; simp [hz]
          rw [hz']
          simp only [condK_false]
          rw [J12_4_eq]
          obtain ⟨M5, z1, z2, z3⟩ := h44 M M4 v bs M2.next amb lim bud .nilPtr .nilSlice .nilSlice .nilSlice lo po hf h3 h4 hP (by omega) h5.low h5.ob
          simp +contextual only [fput_some, Nat.reduceEqDiff, if_false, if_true, y12, stepK_ok, onOpK_val, onOpK_call, z1, callK_some]
          exact ⟨M5, _, rfl, z2, z3⟩
        | false =>
          have hz' : (decide ((bs.length : Int) > 0)) = true := by simp only [beq_eq_false_iff_ne] at hz; simp only [decide_eq_true_eq]; omega
          rw [hz']
          simp only [condK_true, Bool.false_or]
          have hh : Hrs M4 h' (bs.map Bd.y) := by
            refine TipX.sl (rows := (bs.map Bd.y).map hrRow) ?_ (fun r hr => ?_)
            · have := h5.th; simpa using this
            · obtain ⟨z, _, rfl⟩ := List.mem_map.mp hr; rfl
          obtain ⟨p, M5, c1, c2, c3, c4⟩ := h43 h' w (bs.map Bd.y) ls amb M4 h4 hh (hQ.ext hf h3) (by simp; omega) hls
          have exA0 : ∀ N, evExtract N (.tuple [p, .int .i64 (if validR (bs.map Bd.y) ls amb = true then 0 else 1)]) 0 = .val p N := fun N => Eq.trans rfl rfl
          have exA1 : ∀ N, evExtract N (.tuple [p, .int .i64 (if validR (bs.map Bd.y) ls amb = true then 0 else 1)]) 1 = .val (.int .i64 (if validR (bs.map Bd.y) ls amb = true then 0 else 1)) N := fun N => Eq.trans rfl rfl
          have nz : ∀ x : Bool, ((if x = true then (0 : Int) else 1) != 0) = !x := fun x => by cases x <;> rfl
          simp +contextual only [fput_some, Nat.reduceEqDiff, if_false, if_true, y1, y2, y13, stepK_ok, onOpK_val, onOpK_call, c1, callK_some, exA0, exA1, bin_neq, nz]
          rw [valid_eq _ _ _ hls]
          cases hv : validH (bs.map Bd.y) ls amb with
          | false =>
            simp only [Bool.not_false, condK_true, stepK_ok, onOpK_val]
            exact ⟨M5, _, rfl, h3.trans c2, c3⟩
          | true =>
            simp only [Bool.not_true, condK_false]
            have ob5 := c2.get h4 h5.ob
            have st := ob_store (P := prog) (n := 10) (i := 4) (t := 110) (x := p) ob5 rfl sz110 (by omega) c4.plain.1 c4.plain.2
            have g6 : Gr M (M5.set M2.next (.cells ((tRow v amb lim bud .nilPtr .nilSlice .nilSlice .nilSlice lo po).set 4 p) 0 0)) := (h3.trans c2).set L _
            have f6 : (M5.set M2.next (.cells ((tRow v amb lim bud .nilPtr .nilSlice .nilSlice .nilSlice lo po).set 4 p) 0 0)).Fine := c3.set (c3 _ _ ob5) _
            obtain ⟨M7, z1, z2, z3⟩ := h44 M _ v bs M2.next amb lim bud p .nilSlice .nilSlice .nilSlice lo po hf g6 f6 hP (by omega) L (by rw [Mem.get_set, if_pos rfl]; rfl)
            rw [J12_5_eq]
            simp +contextual only [fput_some, Nat.reduceEqDiff, if_false, if_true, y12, stepK_ok, onOpK_val, nck, fa114_4, st]
            rw [J12_4_eq]
            simp +contextual only [fput_some, Nat.reduceEqDiff, if_false, if_true, y12, stepK_ok, onOpK_val, onOpK_call, z1, callK_some]
            exact ⟨M7, _, rfl, z2, z3⟩
    simp +contextual only [fput_some, Nat.reduceEqDiff, if_false, if_true, a0, a2, a3, a4, stepK_ok, onOpK_val, hlen, m1, p1, bR, b1']
    refine tail _ ?_ ?_ ?_ ?_ ?_ ?_ ?_ <;> simp only [fput_some, Nat.reduceEqDiff, if_false, if_true, a0, a1, a2, a3] <;> rfl
def K12 (C : Caller) : Prop := ∀ (v w : AVal) (bs : List Bd) (ls : List Lk) (amb lim bud : Int) (M : Mem), M.Fine → Bds M v bs → Lks M w ls → bs.length ≤ 1000000 → ls.length ≤ 1000000 →
    ∃ M' p, C 12 [v, w, .int .i64 amb, .int .i64 lim, .int .u64 bud] M = some (.tuple [p, .int .i64 (if tOk bs ls amb lim bud = true then 0 else 1)], M') ∧ Gr M M' ∧ M'.Fine
theorem k12 {L : Lib} (h : L 12 = none) (h40 : K40 (callW prog L)) (h41 : K41 (callW prog L)) (h42 : K42 (callW prog L)) (h43 : K43p (callW prog L)) (h44 : K44 (callW prog L)) : K12 (callW prog L) := fun v w bs ls amb lim bud M hf hP hQ h1 h2 => by
  rw [run12 h]; exact con12 _ h40 h41 h42 h43 h44 hf hP hQ h1 h2
end Go.Proofs.Tryz.W
namespace Go.Proofs.Tryz.W
attribute [local congr] stepK_cg onOpK_cg callK_cg condK_cg onStillK_cg

def modv (v n : Int) : Int := IntKind.i64.wrap ((IntKind.u64.wrap v).tmod (IntKind.u64.wrap n))
theorem u64_wrap {n : Int} (h1 : 0 ≤ n) (h2 : n < 18446744073709551616) : IntKind.u64.wrap n = n := by
  unfold IntKind.wrap; simp [IntKind.bits, IntKind.signed]; omega
theorem u64_range (n : Int) : 0 ≤ IntKind.u64.wrap n ∧ IntKind.u64.wrap n < 18446744073709551616 := by
  unfold IntKind.wrap; simp [IntKind.bits, IntKind.signed]; omega
theorem tmod_range {a b : Int} (ha : 0 ≤ a) (hb : 0 < b) : 0 ≤ a.tmod b ∧ a.tmod b < b := by
  rw [Int.tmod_eq_emod_of_nonneg ha]; exact ⟨Int.emod_nonneg _ (by omega), Int.emod_lt_of_pos _ hb⟩
theorem modv_range (v : Int) {n : Int} (h0 : 0 < n) (h1 : n < 4611686018427387904) : 0 ≤ modv v n ∧ modv v n < n := by
  unfold modv
  rw [u64_wrap (n := n) (by omega) (by omega)]
  obtain ⟨h2, h3⟩ := tmod_range (u64_range v).1 h0
  rw [wrap_i64 (by omega) (by omega)]; exact ⟨h2, h3⟩
def K14 (C : Caller) : Prop := ∀ (v n : Int) (M : Mem), 0 < n → n < 4611686018427387904 → C 14 [.int .i64 v, .int .i64 n] M = some (.int .i64 (modv v n), M)
theorem k14 {L : Lib} (h : L 14 = none) : K14 (callW prog L) := fun v n M h0 h1 => by
  rw [run14 h, J14_0_eq]
  have a0 : argsF [.int .i64 v, .int .i64 n] 0 = .int .i64 v := rfl
  have a1 : argsF [.int .i64 v, .int .i64 n] 1 = .int .i64 n := rfl
  have hne : IntKind.u64.wrap n ≠ 0 := by rw [u64_wrap (by omega) (by omega)]; omega
  simp +contextual only [a0, a1, stepK_ok, onOpK_val, conv_int un3 un128, conv_int un128 un3, bin_rem hne]
  rfl

/-- As much of a domain as a glance needs. -/
def Bds0 (M : Mem) (v : AVal) (bs : List Bd) : Prop := Sl M v 7 (bs.map Bd.row) ∧ ∀ b ∈ bs, Pts M b.ps b.l ∧ Tps M b.ts b.tl
def bigB (b : Bd) : Bool := decide ((b.l.length : Int) > 20) || decide ((b.tl.length : Int) > 20)
def bigs (bs : List Bd) : Bool := bs.any bigB || decide ((bs.length : Int) > 10)
theorem w9 (C : Caller) {M : Mem} {v : AVal} : ∀ (suf pre : List Bd) (e : FEnv), Bds0 M v (pre ++ suf) → e 0 = v → e 3 = .int .i64 (pre.length : Int) → ((pre ++ suf).length : Int) ≤ 9223372036854775807 →
    W9_2 C e M = some (.bool (suf.any bigB || decide (((pre ++ suf).length : Int) > 10)), M) := by
  intro suf
  induction suf with
  | nil =>
    intro pre e hP g0 g3 hl
    have hlen := hP.1.len un22 M
    simp only [List.append_nil, List.length_map] at hlen
    rw [W9_2_eq]
    simp only [g0, g3, hlen, stepK_ok, onOpK_val, bin_lss, Int.lt_irrefl, decide_false, condK_false]
    rw [J9_1_eq]
    simp only [fput_some, Nat.reduceEqDiff, if_false, g0, hlen, stepK_ok, onOpK_val, bin_gtr, List.any_nil, Bool.false_or, List.append_nil]
  | cons b r ih =>
    intro pre e hP g0 g3 hl
    have hlen := hP.1.len un22 M
    simp only [List.length_map] at hlen
    obtain ⟨q, hp1, hp2⟩ := hP.1.idx un22 sz45 (i := pre.length) (r := b.row) (by simp) M
    have hlt : ((pre.length : Int) < ((pre ++ b :: r).length : Int)) := by simp; omega
    have hw : IntKind.i64.wrap ((pre.length : Int) + 1) = ((pre ++ [b]).length : Int) := by
      rw [wrap_i64 (by omega) (by simp at hl; omega)]; simp
    have x1 := hp2.load (P := prog) (t := 42) ag42 2 (v := b.ps) rfl
    have x2 := hp2.load (P := prog) (t := 43) ag43 6 (v := b.ts) rfl
    have hb := hP.2 b (by simp)
    have n1 := hb.1.len un42 M
    have n2 := hb.2.len un43 M
    simp only [List.length_map] at n1 n2
    rw [W9_2_eq]
    simp only [g0, g3, hlen, stepK_ok, onOpK_val, bin_lss, decide_eq_true hlt, condK_true]
    rw [J9_3_eq]
    simp +contextual only [fput_some, Nat.reduceEqDiff, if_false, if_true, g0, g3, stepK_ok, onOpK_val, hp1, fa45_1, fa45_3, x1, x2, n1, n2, bin_gtr, sel_t, sel_f, stepK_no, wantF, wantT, wantS, wantFc, wantTc, step_or, step_and, stepK_val, pick_b, sel_or, sel_and]
    have hb' : (decide ((b.l.length : Int) > 20) || decide ((b.tl.length : Int) > 20)) = bigB b := rfl
    rw [hb', List.any_cons]
    cases hc : bigB b with
    | true => simp only [condK_true, stepK_ok, onOpK_val, Bool.true_or]
    | false =>
      simp only [condK_false, Bool.false_or]
      rw [J9_4_eq]
      simp only [fput_some, Nat.reduceEqDiff, if_false, if_true, g3, stepK_ok, onOpK_val, bin_add, hw]
      rw [show pre ++ b :: r = (pre ++ [b]) ++ r by simp]
      refine ih (pre ++ [b]) _ (by simpa using hP) ?_ ?_ (by simpa using hl) <;> simp only [fput_some, Nat.reduceEqDiff, if_false, if_true, g0]
def K9 (C : Caller) : Prop := ∀ (v : AVal) (bs : List Bd) (M : Mem), Bds0 M v bs → (bs.length : Int) ≤ 9223372036854775807 → C 9 [v] M = some (.bool (bigs bs), M)
theorem k9 {L : Lib} (h : L 9 = none) : K9 (callW prog L) := fun v bs M hP hl => by
  rw [run9 h, J9_0_eq]
  have a0 : argsF [v] 0 = v := rfl
  simp only [stepK_ok, onOpK_val]
  exact w9 _ bs [] _ hP (by simp only [fput_some, Nat.reduceEqDiff, if_false, a0]) (by simp only [fput_some, Nat.reduceEqDiff, if_false, if_true]; rfl) (by simpa using hl)

/-! A valid table of points out of any -/
def tblNext (p x : Pt) : Pt := (IntKind.u64.wrap (IntKind.u64.wrap (p.1 + 1) + x.1.tmod 100), IntKind.u64.wrap (p.2.1 + x.2.1.tmod 4), IntKind.u64.wrap (p.2.2 + x.2.2.tmod 30))
def tblFrom : Pt → List Pt → List Pt
  | p, [] => [p]
  | p, x :: r => p :: tblFrom (tblNext p x) r
def tbl : List Pt → List Pt
  | [] => [(1, 5, 0)]
  | x :: r => tblFrom (IntKind.u64.wrap (1 + x.1.tmod 100), x.2.1.tmod 100, x.2.2.tmod 100) (r.take 7)

theorem bR61 (a b c : Int) (M : Mem) : evBuildR prog M 61 [(0, .int .u64 a), (1, .int .u64 b), (2, .int .u64 c)] = .val (.agg (ptRow (a, b, c))) M := by
  rw [build_eq zr61 pl61]; simp [fillV, listAt, overlay, evAgg, solid_int, cells_int, ptRow]
theorem bR61b (a b : Int) (M : Mem) : evBuildR prog M 61 [(0, .int .u64 a), (1, .int .u64 b)] = .val (.agg (ptRow (a, b, 0))) M := by
  rw [build_eq zr61 pl61]; simp [fillV, listAt, overlay, evAgg, solid_int, cells_int, ptRow]
theorem fit61 {n : Nat} (h : n ≤ 1000000) : fits prog 61 n = true := fits_of by61 (by omega) (m := 1000000) (by omega) h

/-- The table so far: full, or with room at its tip. -/
def Tab (M : Mem) (v : AVal) (lo : Nat) (l : List Pt) : Prop := (∃ id, lo ≤ id ∧ OwnR M v id 3 (l.map ptRow)) ∨ (TipX M v 3 l.length (l.map ptRow).flatten ∧ ∀ i, blk v i → lo ≤ i)
theorem pt_len (l : List Pt) : ∀ r ∈ l.map ptRow, r.length = 3 := fun r hr => by obtain ⟨x, _, rfl⟩ := List.mem_map.mp hr; rfl
theorem Tab.sl {M : Mem} {v : AVal} {lo : Nat} {l : List Pt} (h : Tab M v lo l) : Pts M v l := by
  rcases h with ⟨id, _, h⟩ | ⟨h, _⟩
  · exact h.sl
  · exact TipX.sl (by rw [List.length_map]; exact h) (pt_len l)
theorem Tab.lo {M : Mem} {v : AVal} {lo : Nat} {l : List Pt} (h : Tab M v lo l) : ∀ i, blk v i → lo ≤ i := by
  rcases h with ⟨id, h1, h⟩ | ⟨_, h⟩
  · intro i hi; obtain ⟨rfl, _⟩ := h; rw [blk_slice hi]; exact h1
  · exact h
theorem Tab.push {M : Mem} {v r : AVal} {lo : Nat} {l : List Pt} {y : Pt} (h : Tab M v lo l) (hf : M.Fine) (hlo : lo ≤ M.next) (hr : newsOf M 3 r = some (ptRow y)) (hl : l.length ≤ 1000) :
    ∃ v' M', Go.VE.builtin prog M .append #[42, 42] [v, r] = .val v' M' ∧ Tab M' v' lo (l ++ [y]) ∧ FrS (fun i => lo ≤ i) M M' ∧ M'.Fine := by
  have hm : ((l ++ [y]).map ptRow).flatten = (l.map ptRow).flatten ++ ptRow y := by simp
  rcases h with ⟨id, h1, h⟩ | ⟨h, h1⟩
  · obtain ⟨v', M', p1, p2, p3, p4, p5⟩ := h.push (P := prog) (m := 1) (t1 := 42) hf un42 zc61 (by omega) (by omega) hr rfl (fit61 (by simp; omega)) un42 (fun k hk => by cases hk)
    refine ⟨v', M', p1, .inr ⟨?_, fun i hi => Nat.le_trans hlo (p5 i hi)⟩, FrS.of p3, p4⟩
    rw [hm, List.length_append]; simpa using p2
  · obtain ⟨v', M', p1, p2, p3, p4, p5⟩ := h.push (P := prog) (m := 1) (t1 := 42) hf un42 zc61 (by omega) (by omega) hr rfl (fit61 (by omega)) (fit61 (by omega)) un42 (fun k hk => by cases hk)
    refine ⟨v', M', p1, .inr ⟨?_, fun i hi => ?_⟩, p3.mono (fun i _ hi => h1 i hi), p4⟩
    · rw [hm, List.length_append]; exact p2
    · rcases p5 i hi with h2 | h2
      · exact h1 i h2
      · omega
end Go.Proofs.Tryz.W
