/-
  Part of a proof over this seat: see the last text.
-/
import Derived.Test.YtiikicpepnaghaaGreatDoorM44e
set_option linter.unusedSimpArgs false
set_option linter.unusedVariables false
open Go Go.VE
namespace Go.Proofs.Tryz.W
attribute [local congr] stepK_cg onOpK_cg callK_cg condK_cg onStillK_cg

def nOf (hs : List Hr) : Nat := if hs = [] then 1 else min hs.length 5
def ambOf (a : Int) : Int := IntKind.i64.wrap (IntKind.i64.wrap ((IntKind.u64.wrap a).tmod 201) - 100)
def someS (hs : List Hr) (ls : List Lk) : List Hr × List Lk := (ls.take 12).foldl (lkStep (nOf hs)) (doms1 hs, [])
theorem bmin2 {k : IntKind} (ts : Array TypeId) (M : Mem) (a b : Int) : Go.VE.builtin prog M .min ts [.int k a, .int k b] = .val (.int k (if b < a then b else a)) M := by
  simp [Go.VE.builtin, minInt, OpR.ofOpt]
theorem bmax2 {k : IntKind} (ts : Array TypeId) (M : Mem) (a b : Int) : Go.VE.builtin prog M .max ts [.int k a, .int k b] = .val (.int k (if a < b then b else a)) M := by
  simp [Go.VE.builtin, maxInt, OpR.ofOpt]
theorem nOf_eq (hs : List Hr) : (if (1 : Int) < (if (5 : Int) < (hs.length : Int) then 5 else (hs.length : Int)) then (if (5 : Int) < (hs.length : Int) then 5 else (hs.length : Int)) else 1) = ((nOf hs : Nat) : Int) := by
  unfold nOf
  by_cases he : hs = []
  · subst he; rfl
  · have : 0 < hs.length := List.length_pos_iff.mpr he
    rw [if_neg he]
    by_cases h5 : (5 : Int) < (hs.length : Int)
    · rw [if_pos h5, if_pos (by omega), Nat.min_eq_right (by omega)]; rfl
    · rw [if_neg h5, Nat.min_eq_left (by omega)]
      split <;> omega
theorem bR124 {dv : AVal} (hv : Cell1 dv) (a : Int) (M : Mem) : evBuildR prog M 124 [(2, .int .i64 a), (0, dv)] = .val (.agg [dv, .nilSlice, .int .i64 a]) M := by
  rw [build_eq zr124 pl124]; simp [fillV, listAt, hv.1, hv.2, overlay, evAgg, solid_int, cells_int]
theorem z124s : (zero prog 124).solid = true := by kernel_rfl
theorem z124c : (zero prog 124).cells = [.nilSlice, .nilSlice, .int .i64 0] := by kernel_rfl
theorem zc41' : zeroCells prog 41 = some (2, [.int .i64 0, .int .i64 0]) := by kernel_rfl
theorem res45 : f45.results = #[.cell 6 124] := by kernel_rfl

theorem con45 (C : Caller) (h14 : K14 C) {v w : AVal} {hs : List Hr} {ls : List Lk} {a : Int} {M : Mem} (hf : M.Fine) (hP : Hrs M v hs) (hQ : Lks M w ls) (hl : hs.length ≤ 1000000) (hll : ls.length ≤ 1000000) :
    ∃ M' dv lv, J45_0 C (argsF [v, w, .int .i64 a]) M = some (.agg [dv, lv, .int .i64 (ambOf a)], M') ∧ Hrs M' dv (someS hs ls).1 ∧ Lks M' lv (someS hs ls).2 ∧ Gr M M' ∧ M'.Fine ∧ (∀ i, blk lv i → M.next ≤ i) ∧ ((someS hs ls).2 = [] → lv = .nilSlice) := by
  have a0 : argsF [v, w, .int .i64 a] 0 = v := rfl
  have a1 : argsF [v, w, .int .i64 a] 1 = w := rfl
  have a2 : argsF [v, w, .int .i64 a] 2 = .int .i64 a := rfl
  have hn0 : 0 < nOf hs := by unfold nOf; split; · omega
                              · rename_i he; have : 0 < hs.length := List.length_pos_iff.mpr he; omega
  have hn5 : nOf hs ≤ 5 := by unfold nOf; split <;> omega
  have hlen : ∀ N, Go.VE.builtin prog N .len #[104] [v] = .val (.int .i64 (hs.length : Int)) N := fun N => by have := hP.len un104 N; simpa using this
  have hNw : evNew M (zero prog 124) = .val (.ptr ⟨M.next, 0, 0, 3⟩) (M.alloc (.cells [.nilSlice, .nilSlice, .int .i64 0] 0 0)) := by rw [evNew_one z124s, z124c]; rfl
  have g1 : Gr M (M.alloc (.cells [.nilSlice, .nilSlice, .int .i64 0] 0 0)) := Gr.alloc _ _
  have f1 : (M.alloc (.cells [.nilSlice, .nilSlice, .int .i64 0] 0 0)).Fine := hf.alloc _
  have o6 : (M.alloc (.cells [.nilSlice, .nilSlice, .int .i64 0] 0 0)).get M.next = some (.cells [.nilSlice, .nilSlice, .int .i64 0] 0 0) := by rw [Mem.get_alloc, if_pos rfl]
  have nx1 : (M.alloc (.cells [.nilSlice, .nilSlice, .int .i64 0] 0 0)).next = M.next + 1 := rfl
  generalize M.alloc (.cells [.nilSlice, .nilSlice, .int .i64 0] 0 0) = M1 at hNw g1 f1 o6 nx1
  obtain ⟨dv, M2, m1, m2, m3, m4, m5⟩ := OwnR.make (P := prog) (M := M1) f1 un104 zc41' rfl by41 (n := nOf hs) (by omega) (by omega) (by omega)
  have hbox := box_agg (P := prog) (M := M2) (t := 124) (vs := [dv, .nilSlice, .int .i64 (ambOf a)]) z124s (by rw [z124c]; rfl) sz124 rfl (by omega) m4
  obtain ⟨M3, M4, b1, b2, b3, b4, b5, b6, b7⟩ := hbox
  have hrep : List.replicate (nOf hs) [AVal.int .i64 0, AVal.int .i64 0] = (List.replicate (nOf hs) ((0 : Int), (0 : Int))).map hrRow := by rw [List.map_replicate]; rfl
  rw [hrep] at m2
  have L3 := m3.next
  have hI : Inv45 M M4 M.next M2.next M1.next dv .nilSlice (ambOf a) (List.replicate (nOf hs) (0, 0)) [] :=
    ⟨Nat.le_refl _, by omega, by omega, by omega, by omega, by omega, (m3.trans b3).get f1 o6, b6, m2.ext m4 b3, .nil, fun i hi => (blk_nil hi).elim, fun _ => rfl⟩
  have g4 : Gr M M4 := (g1.trans m3).trans b3
  have bR := bR124 m2.plain (ambOf a) M2
  have hamb : IntKind.i64.wrap (IntKind.i64.wrap ((IntKind.u64.wrap a).tmod 201) - 100) = ambOf a := rfl
  have tail : ∀ E : FEnv, E 0 = v → E 1 = w → E 6 = .ptr ⟨M.next, 0, 0, 3⟩ → E 7 = .int .i64 (nOf hs : Int) → E 8 = .ptr ⟨M2.next, 0, 0, 3⟩ → E 9 = .int .i64 ((0 : Nat) : Int) →
      ∃ M' dv lv, W45_2 C E M4 = some (.agg [dv, lv, .int .i64 (ambOf a)], M') ∧ Hrs M' dv (someS hs ls).1 ∧ Lks M' lv (someS hs ls).2 ∧ Gr M M' ∧ M'.Fine ∧ (∀ i, blk lv i → M.next ≤ i) ∧ ((someS hs ls).2 = [] → lv = .nilSlice) := by
    intro E x0 x1 x6 x7 x8 x9
    obtain ⟨e1, M5, i1, i2, i3, i4, y0, y1, y6, y7, y8⟩ := w45a C hf (v := v) (b6 := M.next) (b8 := M2.next) (d := M1.next) (dv := dv) (amb := ambOf a) hP hl (n := nOf hs) hn5 (fun he => by unfold nOf; rw [if_neg he]; omega) (nOf hs) 0 (List.replicate (nOf hs) (0, 0)) E M4 (by omega) (by simp) b4 g4 hI x0 x6 x7 x8 x9
    have hd1 : (List.replicate (nOf hs) ((0 : Int), (0 : Int))).take 0 ++ (if hs = [] then List.replicate (nOf hs) ((1 : Int), (1 : Int)) else ((hs.drop 0).take (nOf hs)).map domOf) = doms1 hs := by
      unfold doms1 nOf
      by_cases he : hs = []
      · simp [he]
      · rw [if_neg he, if_neg he, if_neg he, List.take_zero, List.nil_append, List.drop_zero]
        rcases Nat.le_total hs.length 5 with h | h
        · rw [Nat.min_eq_left h, List.take_length, List.take_of_length_le h]
        · rw [Nat.min_eq_right h]
    rw [hd1] at i4
    have hdl : (doms1 hs).length = nOf hs := by
      unfold doms1 nOf; split
      · rfl
      · simp; omega
    rw [i1, J45_1_eq]
    simp only [stepK_ok, onOpK_val]
    rw [x1] at y1; rw [x6] at y6; rw [x7] at y7; rw [x8] at y8
    have key := fun E' z1 z6 z7 z8 z10 => w45b C h14 hf (w := w) (b6 := M.next) (b8 := M2.next) (d := M1.next) (dv := dv) (amb := ambOf a) (n := nOf hs) hn0 (by omega) ls [] (doms1 hs) [] E' M5 .nilSlice hQ i2 i3 i4 hdl (by simp) (by simp) z1 z6 z7 z8 z10 hll
    have fin : ∀ E' : FEnv, E' 1 = w → E' 6 = .ptr ⟨M.next, 0, 0, 3⟩ → E' 7 = .int .i64 (nOf hs : Int) → E' 8 = .ptr ⟨M2.next, 0, 0, 3⟩ → E' 10 = .int .i64 ((0 : Nat) : Int) →
        ∃ M' dv lv, W45_4 C E' M5 = some (.agg [dv, lv, .int .i64 (ambOf a)], M') ∧ Hrs M' dv (someS hs ls).1 ∧ Lks M' lv (someS hs ls).2 ∧ Gr M M' ∧ M'.Fine ∧ (∀ i, blk lv i → M.next ≤ i) ∧ ((someS hs ls).2 = [] → lv = .nilSlice) := by
      intro E' z1 z6 z7 z8 z10
      obtain ⟨e2, M6, lv, j1, j2, j3, j4, k6, k8⟩ := key E' z1 z6 z7 z8 z10
      rw [z6] at k6; rw [z8] at k8
      have l8 := (ob_el (n := 3) j4.o8 rfl).loadAgg (P := prog) (t := 124) ag124 sz124
      have st := st_agg (P := prog) (t := 124) (off := 0) (lim := 3) (vs := [dv, lv, .int .i64 (ambOf a)]) j4.o6 sz124 (by simp) (by simp)
      have hrow : ([AVal.nilSlice, .nilSlice, .int .i64 0] : List AVal).take 0 ++ [dv, lv, .int .i64 (ambOf a)] ++ ([AVal.nilSlice, .nilSlice, .int .i64 0] : List AVal).drop (0 + [dv, lv, AVal.int .i64 (ambOf a)].length) = [dv, lv, .int .i64 (ambOf a)] := rfl
      rw [hrow] at st
      have o7 : (M6.set M.next (.cells [dv, lv, .int .i64 (ambOf a)] 0 0)).get M.next = some (.cells [dv, lv, .int .i64 (ambOf a)] 0 0) := by rw [Mem.get_set, if_pos rfl]
      have fr : FrS (· = M.next) M6 (M6.set M.next (.cells [dv, lv, .int .i64 (ambOf a)] 0 0)) := FrS.set (S := (· = M.next)) (id := M.next) FrS.refl (.inr rfl) _
      have g7 : Gr M (M6.set M.next (.cells [dv, lv, .int .i64 (ambOf a)] 0 0)) := j3.set (Nat.le_refl _) _
      have f7 : (M6.set M.next (.cells [dv, lv, .int .i64 (ambOf a)] 0 0)).Fine := j2.set (j2 _ _ j4.o6) _
      generalize M6.set M.next (.cells [dv, lv, .int .i64 (ambOf a)] 0 0) = M7 at st o7 fr g7 f7
      have l7 := (ob_el (n := 3) o7 rfl).loadAgg (P := prog) (t := 124) ag124 sz124
      rw [j1, J45_3_eq]
      simp +contextual only [fput_some, Nat.reduceEqDiff, if_false, if_true, k6, k8, stepK_ok, onOpK_val, l8, st]
      rw [res45]
      refine ⟨M7, dv, lv, ret_cell (p := ⟨M.next, 0, 0, 3⟩) ?_ l7, (j4.od.sl).frs j2 fr (fun i hi h => ?_), (j4.ol.sl).frs j2 fr (fun i hi h => (j4.nl i hi).1 h), g7, f7, j4.ol.2.1, j4.hn⟩
      · simp only [fput_some, Nat.reduceEqDiff, if_false, k6]
      · obtain ⟨hdv, _⟩ := j4.od
        rw [hdv] at hi
        have := blk_slice hi
        exact j4.n2 (by rw [← h, this])
    refine fin _ ?_ ?_ ?_ ?_ ?_ <;> simp only [fput_some, Nat.reduceEqDiff, if_false, if_true, y1, y6, y7, y8] <;> rfl
  rw [J45_0_eq]
  simp +contextual only [fput_some, Nat.reduceEqDiff, if_false, if_true, a0, a2, stepK_ok, onOpK_val, hNw, hlen, bmin2, bmax2, nOf_eq, conv_int un2 un24, conv_int un24 un2, bin_rem (show (201 : Int) ≠ 0 by decide), bin_sub, hamb, m1, bR, b1, b2]
  refine tail _ ?_ ?_ ?_ ?_ ?_ ?_ <;> simp only [fput_some, Nat.reduceEqDiff, if_false, if_true, a0, a1] <;> rfl
def K45 (C : Caller) : Prop := ∀ (v w : AVal) (hs : List Hr) (ls : List Lk) (a : Int) (M : Mem), M.Fine → Hrs M v hs → Lks M w ls → hs.length ≤ 1000000 → ls.length ≤ 1000000 →
    ∃ M' dv lv, C 45 [v, w, .int .i64 a] M = some (.agg [dv, lv, .int .i64 (ambOf a)], M') ∧ Hrs M' dv (someS hs ls).1 ∧ Lks M' lv (someS hs ls).2 ∧ Gr M M' ∧ M'.Fine ∧ (∀ i, blk lv i → M.next ≤ i) ∧ ((someS hs ls).2 = [] → lv = .nilSlice)
theorem k45 {L : Lib} (h : L 45 = none) (h14 : K14 (callW prog L)) : K45 (callW prog L) := fun v w hs ls a M hf hP hQ h1 h2 => by rw [run45 h]; exact con45 _ h14 hf hP hQ h1 h2
end Go.Proofs.Tryz.W
namespace Go.Proofs.Tryz.W
attribute [local congr] stepK_cg onOpK_cg callK_cg condK_cg onStillK_cg

abbrev Bq := Hr × List Pt × Gp × List Tp
def Bd.q (b : Bd) : Bq := (b.y, b.l, b.g, b.tl)
def govOf (g : Gp) : Gp := (IntKind.i64.wrap (1 + modv g.1 100), modv g.2.1 (IntKind.i64.wrap (1 + modv g.1 100)), IntKind.i64.wrap (1 + modv g.2.2 4))
def climD (bs : List Bd) : Nat → List Hr → List Bq
  | _, [] => []
  | i, y :: r => (match bs[i]? with
    | some b => (y, tbl b.l, govOf b.g, trips b.tl)
    | none => (y, tbl [], (80, 30, 2), [])) :: climD bs (i + 1) r
theorem up_range (x : Int) : 1 ≤ IntKind.i64.wrap (1 + modv x 100) ∧ IntKind.i64.wrap (1 + modv x 100) ≤ 100 := by
  obtain ⟨h1, h2⟩ := modv_range x (n := 100) (by decide) (by decide)
  rw [wrap_i64 (by omega) (by omega)]; omega
theorem bR39 (a b c : Int) (M : Mem) : evBuildR prog M 39 [(0, .int .i64 a), (1, .int .i64 b), (2, .int .i64 c)] = .val (.agg (gpRow (a, b, c))) M := by
  rw [build_eq zr39 pl39]; simp [fillV, listAt, overlay, evAgg, solid_int, cells_int, gpRow]
theorem bR45 {p : AVal} (hp : Cell1 p) (y : Hr) (g : Gp) (M : Mem) : evBuildR prog M 45 [(0, .agg (hrRow y)), (1, p), (2, .agg (gpRow g))] = .val (.agg (bdRow y p g .nilSlice)) M := by
  rw [build_eq zr45 pl45]; simp [fillV, listAt, hp.1, hp.2, overlay, evAgg, solid_int, solid_agg, cells_int, cells_agg, gpRow, hrRow, bdRow]
theorem bR35 {lv : AVal} (hp : Cell1 lv) (a b c : Int) (M : Mem) : evBuildR prog M 35 [(1, lv), (2, .int .i64 a), (3, .int .i64 b), (4, .int .u64 c)] = .val (.agg [.nilSlice, lv, .int .i64 a, .int .i64 b, .int .u64 c]) M := by
  rw [build_eq zr35 pl35]; simp [fillV, listAt, hp.1, hp.2, overlay, evAgg, solid_int, cells_int]
theorem z39s : (zero prog 39).solid = true := by kernel_rfl
theorem z39l : (zero prog 39).cells.length = 3 := by kernel_rfl
theorem z35s : (zero prog 35).solid = true := by kernel_rfl
theorem z35c : (zero prog 35).cells = [.nilSlice, .nilSlice, .int .i64 0, .int .i64 0, .int .u64 0] := by kernel_rfl
theorem z124l : (zero prog 124).cells.length = 3 := by rw [z124c]; rfl
theorem res13 : f13.results = #[.cell 10 35] := by kernel_rfl
theorem by45 : Go.VE.bytes prog 45 = 88 := by kernel_rfl
theorem zc45 : zeroCells prog 45 = some (7, (zero prog 45).cells) := by kernel_rfl
theorem fit45 {n : Nat} (h : n ≤ 1000000) : fits prog 45 n = true := fits_of by45 (by omega) (m := 1000000) (by omega) h
theorem fit41 {n : Nat} (h : n ≤ 1000000) : fits prog 41 n = true := fits_of by41 (by omega) (m := 1000000) (by omega) h

/-- A row's slices lie apart from cv's block, from B on. -/
def RowOff (B : Nat) (cv : AVal) (b : Bd) : Prop := (∀ i, blk b.ps i → B ≤ i ∧ ¬ blk cv i) ∧ (∀ i, blk b.ts i → B ≤ i ∧ ¬ blk cv i)
structure Inv13 (M : Mem) (B rb sb cb : Nat) (dv lv cv : AVal) (am lm bu : Int) (ds : List Hr) (ls : List Lk) (rs : List Bd) : Prop where
  lr : rb < B
  lsb : sb < B
  lc : cb < B
  nrc : rb ≠ cb
  nsc : sb ≠ cb
  orb : M.get rb = some (.cells [.nilSlice, .nilSlice, .int .i64 0, .int .i64 0, .int .u64 0] 0 0)
  osb : M.get sb = some (.cells [dv, lv, .int .i64 am] 0 0)
  ocb : M.get cb = some (.cells [cv, lv, .int .i64 am, .int .i64 lm, .int .u64 bu] 0 0)
  hd : Hrs M dv ds
  hdB : ∀ i, blk dv i → i < B ∧ i ≠ cb
  hl : Lks M lv ls
  hlB : ∀ i, blk lv i → i < B ∧ i ≠ cb
  tc : TipL M cv B 7 (rs.map Bd.row)
  rows : ∀ b ∈ rs, BdIn M b ∧ RowOff B cv b
section
variable {M M' : Mem} {B rb sb cb : Nat} {dv lv cv : AVal} {am lm bu : Int} {ds : List Hr} {ls : List Lk} {rs : List Bd}
theorem Inv13.ext (h : Inv13 M B rb sb cb dv lv cv am lm bu ds ls rs) (hf : M.Fine) (hg : Gr M M') : Inv13 M' B rb sb cb dv lv cv am lm bu ds ls rs :=
  ⟨h.lr, h.lsb, h.lc, h.nrc, h.nsc, hg.get hf h.orb, hg.get hf h.osb, hg.get hf h.ocb, h.hd.ext hf hg, h.hdB, h.hl.ext hf hg, h.hlB, h.tc.ext hf hg, fun b hb => ⟨(h.rows b hb).1.ext hf hg, (h.rows b hb).2⟩⟩
theorem BdIn.frs {S : Nat → Prop} {b : Bd} (h : BdIn M b) (hf : M.Fine) (hg : FrS S M M') (h1 : Off S b.ps) (h2 : Off S b.ts) : BdIn M' b := ⟨h.1.frs hf hg h1, h.2.1.frs hf hg h2, h.2.2⟩

/-- A domain is appended. -/
theorem Inv13.push (h : Inv13 M B rb sb cb dv lv cv am lm bu ds ls rs) (hf : M.Fine) (hB : B ≤ M.next) {b : Bd} (hb : BdIn M b) (ho : RowOff B cv b) (hl : rs.length ≤ 1000) :
    ∃ u cv' Ma Mb Mc, evBuildSliceR prog M 22 1 [(0, .agg b.row)] = .val u Ma ∧ Go.VE.builtin prog Ma .append #[22, 22] [cv, u] = .val cv' Mb ∧ evStore prog Mb 22 (.ptr ⟨cb, 0 + 0, 0, 5⟩) cv' = .val (.tuple []) Mc ∧ Inv13 Mc B rb sb cb dv lv cv' am lm bu ds ls (rs ++ [b]) ∧ Mc.Fine ∧ FrS (fun i => i = cb ∨ B ≤ i) M Mc := by
  obtain ⟨u, Ma, c1, c2, c3, c4, c5⟩ := row1R (P := prog) (M := M) (t := 22) (x := .agg b.row) un22 zc45 rfl rfl (by omega) hf
  have n1 := c2.sl.news
  rw [show ([AVal.agg b.row |>.cells] : List (List AVal)).flatten = b.row by simp [AVal.cells]] at n1
  have ha := h.ext hf c3
  have hba := hb.ext hf c3
  obtain ⟨cv', Mb, p1, p2, p3, p4, p5⟩ := ha.tc.push c4 (Nat.le_trans hB c3.next) un22 zc45 (by omega) n1 rfl (fit45 (by simp; omega)) (fit45 (by omega))
  have cvB : ∀ i, blk cv i → B ≤ i := h.tc.2.1
  have n0 : ∀ x, x < B → ¬ blk cv x := fun x hx hbk => by have := cvB x hbk; omega
  have orb := p3.get c4 ha.orb (n0 _ h.lr)
  have osb := p3.get c4 ha.osb (n0 _ h.lsb)
  have ocb := p3.get c4 ha.ocb (n0 _ h.lc)
  have hd := Sl.frs ha.hd c4 p3 (fun i hi hc => n0 i (h.hdB i hi).1 hc)
  have hlk := Sl.frs ha.hl c4 p3 (fun i hi hc => n0 i (h.hlB i hi).1 hc)
  have st := ob_store (P := prog) (n := 5) (i := 0) (t := 22) (x := cv') ocb rfl sz22 (by omega) p2.1.plain.1 p2.1.plain.2
  have hrow : ([cv, lv, AVal.int .i64 am, .int .i64 lm, .int .u64 bu] : List AVal).set 0 cv' = [cv', lv, .int .i64 am, .int .i64 lm, .int .u64 bu] := rfl
  rw [hrow] at st
  have fr : FrS (· = cb) Mb (Mb.set cb (.cells [cv', lv, .int .i64 am, .int .i64 lm, .int .u64 bu] 0 0)) := FrS.set (S := (· = cb)) (id := cb) FrS.refl (.inr rfl) _
  have cb' : ∀ i, B ≤ i → i ≠ cb := fun i hi e => by have := h.lc; omega
  have ro : ∀ b' : Bd, BdIn Ma b' → RowOff B cv b' → BdIn (Mb.set cb (.cells [cv', lv, .int .i64 am, .int .i64 lm, .int .u64 bu] 0 0)) b' ∧ RowOff B cv' b' := fun b' hb' ho' => by
    refine ⟨(hb'.frs c4 p3 (fun i hi => (ho'.1 i hi).2) (fun i hi => (ho'.2 i hi).2)).frs p4 fr (fun i hi e => cb' i (ho'.1 i hi).1 e) (fun i hi e => cb' i (ho'.2 i hi).1 e), fun i hi => ⟨(ho'.1 i hi).1, fun h' => ?_⟩, fun i hi => ⟨(ho'.2 i hi).1, fun h' => ?_⟩⟩
    · rcases p5 i h' with h1 | h1
      · exact (ho'.1 i hi).2 h1
      · have := hb'.1.blk_lt c4 hi; omega
    · rcases p5 i h' with h1 | h1
      · exact (ho'.2 i hi).2 h1
      · have := hb'.2.1.blk_lt c4 hi; omega
  refine ⟨u, cv', Ma, Mb, _, c1, p1, st, ⟨h.lr, h.lsb, h.lc, h.nrc, h.nsc, fr.get p4 orb h.nrc, fr.get p4 osb h.nsc, by rw [Mem.get_set, if_pos rfl], Sl.frs hd p4 fr (fun i hi e => (h.hdB i hi).2 e), h.hdB, Sl.frs hlk p4 fr (fun i hi e => (h.hlB i hi).2 e), h.hlB, ⟨?_, p2.2.1, ?_⟩, ?_⟩, p4.set (p4 _ _ ocb) _, ?_⟩
  · have := p2.1.frs p4 fr (fun i hi e => cb' i (p2.2.1 i hi) e)
    rw [List.map_append]; exact this
  · rw [List.map_append]; exact p2.2.2
  · intro b' hb'
    rcases List.mem_append.mp hb' with h1 | h1
    · exact ro b' (ha.rows b' h1).1 (ha.rows b' h1).2
    · rw [List.mem_singleton.mp h1]; exact ro b hba ho
  · exact ((FrS.of c3).cat p3 (fun i _ hi => .inr (cvB i hi))).set (.inr (.inl rfl)) _
end
end Go.Proofs.Tryz.W
namespace Go.Proofs.Tryz.W
attribute [local congr] stepK_cg onOpK_cg callK_cg condK_cg onStillK_cg

theorem tblFrom_len : ∀ (l : List Pt) (p : Pt), (tblFrom p l).length = l.length + 1 := by
  intro l
  induction l with
  | nil => intro p; rfl
  | cons x r ih => intro p; show (tblFrom (tblNext p x) r).length + 1 = _; rw [ih]; rfl
theorem tbl_len (l : List Pt) : 1 ≤ (tbl l).length ∧ (tbl l).length ≤ 8 := by
  cases l with
  | nil => exact ⟨Nat.le_refl _, by decide⟩
  | cons x r => unfold tbl; rw [tblFrom_len, List.length_take]; omega
theorem trips_len (l : List Tp) : (trips l).length ≤ 6 := by unfold trips; rw [List.length_map, List.length_take]; omega
def cOne (bs : List Bd) (i : Nat) (y : Hr) : Bq := match bs[i]? with
  | some b => (y, tbl b.l, govOf b.g, trips b.tl)
  | none => (y, tbl [], (80, 30, 2), [])
theorem climD_snoc (bs : List Bd) : ∀ (pre : List Hr) (i : Nat) (y : Hr), climD bs i (pre ++ [y]) = climD bs i pre ++ [cOne bs (i + pre.length) y] := by
  intro pre
  induction pre with
  | nil => intro i y; rfl
  | cons x r ih => intro i y; show _ :: climD bs (i + 1) (r ++ [y]) = _; rw [ih]; simp [climD, Nat.add_assoc, Nat.add_comm 1]

theorem w13b (C : Caller) (h14 : K14 C) (h46 : K46 C) (h47 : K47 C) {M0 : Mem} (hf0 : M0.Fine) {v : AVal} {bs : List Bd} (hP : Bds M0 v bs) (hbl : bs.length ≤ 1000) {B rb sb cb : Nat} {dv lv : AVal} {am lm bu : Int} {ds : List Hr} {ls : List Lk} (hB0 : M0.next ≤ B) (hcb : M0.next ≤ cb) (hdl : ds.length ≤ 1000) : ∀ (suf pre : List Hr) (rs : List Bd) (e : FEnv) (M : Mem) (cv : AVal), ds = pre ++ suf → M.Fine → Gr M0 M → B ≤ M.next → Inv13 M B rb sb cb dv lv cv am lm bu ds ls rs → rs.map Bd.q = climD bs 0 pre → e 0 = v → e 10 = .ptr ⟨rb, 0, 0, 5⟩ → e 13 = .ptr ⟨sb, 0, 0, 3⟩ → e 14 = .ptr ⟨cb, 0, 0, 5⟩ → e 15 = .int .i64 (pre.length : Int) →
    ∃ e' M' cv' rs', W13_4 C e M = J13_3 C e' M' ∧ M'.Fine ∧ Gr M0 M' ∧ B ≤ M'.next ∧ Inv13 M' B rb sb cb dv lv cv' am lm bu ds ls rs' ∧ rs'.map Bd.q = climD bs 0 ds ∧ e' 10 = .ptr ⟨rb, 0, 0, 5⟩ ∧ e' 14 = .ptr ⟨cb, 0, 0, 5⟩ := by
  intro suf
  induction suf with
  | nil =>
    intro pre rs e M cv hds hf hg hB hI hq g0 g10 g13 g14 g15
    rw [List.append_nil] at hds
    have hlen := hI.hd.len un104 M
    simp only [List.length_map, hds] at hlen
    have m0 := (ob_el (n := 3) hI.osb rfl).load (P := prog) (t := 104) ag104 0 (v := dv) rfl
    rw [W13_4_eq]
    simp +contextual only [fput_some, Nat.reduceEqDiff, if_false, if_true, g13, g15, stepK_ok, onOpK_val, fa124_0, m0, hlen, bin_lss, Int.lt_irrefl, decide_false, condK_false]
    refine ⟨_, M, cv, rs, rfl, hf, hg, hB, hI, by rw [hds]; exact hq, ?_, ?_⟩ <;> simp only [fput_some, Nat.reduceEqDiff, if_false, g10, g14]
  | cons y r ih =>
    intro pre rs e M cv hds hf hg hB hI hq g0 g10 g13 g14 g15
    have hdsl : ds.length = pre.length + (r.length + 1) := by rw [hds]; simp
    have hlen := hI.hd.len un104 M
    simp only [List.length_map] at hlen
    have hlt : decide ((pre.length : Int) < (ds.length : Int)) = true := by simp; omega
    have hw : IntKind.i64.wrap ((pre.length : Int) + 1) = ((pre ++ [y]).length : Int) := by
      rw [wrap_i64 (by omega) (by omega)]; simp
    have hyi : (ds.map hrRow)[pre.length]? = some (hrRow y) := by rw [hds]; simp
    have m0 := (ob_el (n := 3) hI.osb rfl).load (P := prog) (t := 104) ag104 0 (v := dv) rfl
    obtain ⟨q, hq1, hq2, _⟩ := hI.hd.idxA (P := prog) un104 sz41 hyi
    have l0 := hq2.loadAgg (P := prog) ag41 sz41
    have n1 : evNew M (zero prog 45) = .val (.ptr ⟨M.next, 0, 0, 7⟩) (M.alloc (.cells (zero prog 45).cells 0 0)) := by rw [evNew_one z45s, z45l]
    have g1 : Gr M (M.alloc (.cells (zero prog 45).cells 0 0)) := Gr.alloc _ _
    have f1 : (M.alloc (.cells (zero prog 45).cells 0 0)).Fine := hf.alloc _
    have o1 : (M.alloc (.cells (zero prog 45).cells 0 0)).get M.next = some (.cells (zero prog 45).cells 0 0) := by rw [Mem.get_alloc, if_pos rfl]
    have nx1 : (M.alloc (.cells (zero prog 45).cells 0 0)).next = M.next + 1 := rfl
    generalize M.alloc (.cells (zero prog 45).cells 0 0) = M1 at n1 g1 f1 o1 nx1
    obtain ⟨w0, M2, c1, c2, c3, c4⟩ := h46 .nilSlice [] M1 f1 (.inl ⟨rfl, .inl rfl⟩) (by simp)
    have g2 := g1.trans c3
    have hI2 := hI.ext hf g2
    have m2 := (ob_el (n := 3) hI2.osb rfl).load (P := prog) (t := 104) ag104 0 (v := dv) rfl
    have l2 := (hq2.ext hf g2).loadAgg (P := prog) ag41 sz41
    have svd : ∀ N, sameVal dv (.val dv N) = true := fun N => (slV_sl hI.hd).sv N
    have o2 := c3.get f1 o1
    have st := st_agg (P := prog) (t := 45) (off := 0) (lim := 7) (vs := bdRow y w0 (80, 30, 2) .nilSlice) o2 sz45 (by simp [bdRow]) (by rw [z45l]; simp [bdRow])
    have hrow : (zero prog 45).cells.take 0 ++ bdRow y w0 (80, 30, 2) .nilSlice ++ (zero prog 45).cells.drop (0 + (bdRow y w0 (80, 30, 2) .nilSlice).length) = bdRow y w0 (80, 30, 2) .nilSlice := by
      rw [List.take_zero, List.nil_append, List.drop_of_length_le (by rw [z45l]; simp [bdRow]), List.append_nil]
    rw [hrow] at st
    have o3 : (M2.set M.next (.cells (bdRow y w0 (80, 30, 2) .nilSlice) 0 0)).get M.next = some (.cells (bdRow y w0 (80, 30, 2) .nilSlice) 0 0) := by rw [Mem.get_set, if_pos rfl]
    have g3 : Gr M (M2.set M.next (.cells (bdRow y w0 (80, 30, 2) .nilSlice) 0 0)) := g2.set (Nat.le_refl _) _
    have f3 : (M2.set M.next (.cells (bdRow y w0 (80, 30, 2) .nilSlice) 0 0)).Fine := c4.set (c4 _ _ o2) _
    have fr3 : FrS (· = M.next) M2 (M2.set M.next (.cells (bdRow y w0 (80, 30, 2) .nilSlice) 0 0)) := FrS.set (S := (· = M.next)) (id := M.next) FrS.refl (.inr rfl) _
    have w0lo := c2.lo
    have hw3 : Pts (M2.set M.next (.cells (bdRow y w0 (80, 30, 2) .nilSlice) 0 0)) w0 (tbl []) := Sl.frs c2.sl c4 fr3 (fun i hi e => by have := w0lo i hi; omega)
    have nx3 : M2.next = (M2.set M.next (.cells (bdRow y w0 (80, 30, 2) .nilSlice) 0 0)).next := rfl
    have L2 := c3.next
    generalize M2.set M.next (.cells (bdRow y w0 (80, 30, 2) .nilSlice) 0 0) = M3 at st o3 g3 f3 fr3 hw3 nx3
    have cvlt : ∀ i, blk cv i → i < M.next := fun i hi => hI.tc.1.blk_lt hf hi
    -- the row is appended
    have fin : ∀ (b : Bd) (E : FEnv) (M' : Mem), b.q = cOne bs pre.length y → M'.Fine → Gr M M' → BdIn M' b → (∀ i, blk b.ps i → M.next ≤ i) → (∀ i, blk b.ts i → M.next ≤ i) → M'.get M.next = some (.cells b.row 0 0) → E 0 = v → E 10 = .ptr ⟨rb, 0, 0, 5⟩ → E 13 = .ptr ⟨sb, 0, 0, 3⟩ → E 14 = .ptr ⟨cb, 0, 0, 5⟩ → E 15 = .int .i64 (pre.length : Int) → E 16 = .ptr ⟨M.next, 0, 0, 7⟩ →
        ∃ e' M'' cv' rs', J13_9 C E M' = J13_3 C e' M'' ∧ M''.Fine ∧ Gr M0 M'' ∧ B ≤ M''.next ∧ Inv13 M'' B rb sb cb dv lv cv' am lm bu ds ls rs' ∧ rs'.map Bd.q = climD bs 0 ds ∧ e' 10 = .ptr ⟨rb, 0, 0, 5⟩ ∧ e' 14 = .ptr ⟨cb, 0, 0, 5⟩ := by
      intro b E M' hbq f' g' hb hbp hbt o' x0 x10 x13 x14 x15 x16
      have hI' := hI.ext hf g'
      have hrl : rs.length = pre.length := by
        have := congrArg List.length hq
        rw [List.length_map] at this
        rw [this]
        have : ∀ (l : List Hr) (i : Nat), (climD bs i l).length = l.length := fun l => by
          induction l with
          | nil => intro i; rfl
          | cons a t ih => intro i; show (climD bs (i + 1) t).length + 1 = _; rw [ih]; rfl
        exact this pre 0
      obtain ⟨u, cv', Ma, Mb, Mc, p1, p2, p3, p4, p5, p6⟩ := hI'.push f' (Nat.le_trans hB g'.next) hb ⟨fun i hi => ⟨by have := hbp i hi; omega, fun hc => by have := cvlt i hc; have := hbp i hi; omega⟩, fun i hi => ⟨by have := hbt i hi; omega, fun hc => by have := cvlt i hc; have := hbt i hi; omega⟩⟩ (by omega)
      have l1 := (ob_el (n := 7) o' rfl).loadAgg (P := prog) (t := 45) ag45 sz45
      have l2 := (ob_el (n := 5) hI'.ocb rfl).load (P := prog) (t := 22) ag22 0 (v := cv) rfl
      have gc : Gr M0 Mc := ((FrS.of (S := fun i => M0.next ≤ i) (hg.trans g')).cat p6 (fun i _ hi => hi.elim (fun h => by omega) (fun h => by omega))).gr (fun i hi h => by omega)
      rw [J13_9_eq]
      simp +contextual only [fput_some, Nat.reduceEqDiff, if_false, if_true, x14, x16, stepK_ok, onOpK_val, fa35_0, l2, l1, p1, p2, p3]
      rw [J13_8_eq]
      simp only [fput_some, Nat.reduceEqDiff, if_false, if_true, x15, stepK_ok, onOpK_val, bin_add, hw]
      have hq' : (rs ++ [b]).map Bd.q = climD bs 0 (pre ++ [y]) := by
        rw [climD_snoc, List.map_append, hq, Nat.zero_add, ← hbq]; rfl
      refine ih (pre ++ [y]) (rs ++ [b]) _ Mc cv' (by rw [hds]; simp) p5 gc (Nat.le_trans (Nat.le_trans hB g'.next) p6.next) p4 hq' ?_ ?_ ?_ ?_ ?_ <;> simp only [fput_some, Nat.reduceEqDiff, if_false, if_true, x0, x10, x13, x14]
    have hblen : ∀ N, Go.VE.builtin prog N .len #[22] [v] = .val (.int .i64 (bs.length : Int)) N := fun N => by have := hP.1.len un22 N; simpa using this
    rw [W13_4_eq]
    simp +contextual only [fput_some, Nat.reduceEqDiff, if_false, if_true, g13, g15, stepK_ok, onOpK_val, fa124_0, m0, hlen, bin_lss, hlt, condK_true]
    rw [J13_6_eq]
    have hgr : gpRow (80, 30, 2) = gpRow ((80, 30, 2) : Gp) := rfl
    have bRa := bR45 (p := w0) c2.sl.plain y (80, 30, 2) M2
    have st' : evStore prog M2 45 (.ptr ⟨M.next, 0, 0, 7⟩) (.agg (bdRow y w0 (80, 30, 2) .nilSlice)) = .val (.tuple []) M3 := st
    by_cases hib : pre.length < bs.length
    · obtain ⟨b, hb⟩ : ∃ b, bs[pre.length]? = some b := ⟨bs[pre.length], List.getElem?_eq_getElem hib⟩
      have hc : decide ((pre.length : Int) < (bs.length : Int)) = true := by simp; omega
      have hbm := hP.2 b (List.mem_of_getElem? hb)
      have g03 := hg.trans g3
      obtain ⟨qb, hb1, hb2, _⟩ := hP.1.idxA (P := prog) un22 sz45 (i := pre.length) (r := b.row) (by rw [List.getElem?_map, hb]; rfl)
      have k3 := hb2.ext hf0 g03
      have lg := k3.loadAggAt (P := prog) (t := 39) (n := 3) ag39 sz39 3 (by show 3 + 3 ≤ 7; omega)
      rw [show AVal.agg (((Bd.row b).drop 3).take 3) = .agg (gpRow b.g) from rfl] at lg
      obtain ⟨M4, M5, d1, d2, d3, d4, d5, d6, d7⟩ := box_agg (P := prog) (M := M3) (t := 39) (vs := gpRow b.g) z39s z39l sz39 rfl (by omega) f3
      have lu := d5.load (P := prog) (t := 3) ag3 0 (v := .int .i64 b.g.1) rfl
      have c14a := h14 b.g.1 100 M5 (by decide) (by decide)
      have g05 := g03.trans d3
      have k5 := hb2.ext hf0 g05
      have lp := k5.load (P := prog) (t := 42) ag42 2 (v := b.ps) rfl
      obtain ⟨w1, M6, e1, e2, e3, e4⟩ := h46 b.ps b.l M5 d4 (hbm.1.ext hf0 g05) (by have := hbm.2.2.1; omega)
      have o6 := e3.get d4 (d3.get f3 o3)
      have s6 := ob_store (P := prog) (n := 7) (i := 2) (t := 42) (x := w1) o6 rfl sz42 (by omega) e2.sl.plain.1 e2.sl.plain.2
      have hr6 : (bdRow y w0 (80, 30, 2) .nilSlice).set 2 w1 = bdRow y w1 (80, 30, 2) .nilSlice := rfl
      rw [hr6] at s6
      have L3 := d3.next; have L4 := e3.next; have L5 := g3.next
      have fr7 : FrS (· = M.next) M6 (M6.set M.next (.cells (bdRow y w1 (80, 30, 2) .nilSlice) 0 0)) := FrS.set (S := (· = M.next)) (id := M.next) FrS.refl (.inr rfl) _
      have o7 : (M6.set M.next (.cells (bdRow y w1 (80, 30, 2) .nilSlice) 0 0)).get M.next = some (.cells (bdRow y w1 (80, 30, 2) .nilSlice) 0 0) := by rw [Mem.get_set, if_pos rfl]
      have f7 : (M6.set M.next (.cells (bdRow y w1 (80, 30, 2) .nilSlice) 0 0)).Fine := e4.set (e4 _ _ o6) _
      have g7 : Gr M (M6.set M.next (.cells (bdRow y w1 (80, 30, 2) .nilSlice) 0 0)) := ((g3.trans d3).trans e3).set (Nat.le_refl _) _
      have w1lo := e2.lo
      have hw7 : Pts (M6.set M.next (.cells (bdRow y w1 (80, 30, 2) .nilSlice) 0 0)) w1 (tbl b.l) := Sl.frs e2.sl e4 fr7 (fun i hi e => by have := w1lo i hi; omega)
      have d57 := (d5.ext d4 e3).frs e4 fr7 (fun h => by simp only at h; have := g3.next; omega)
      have nx7 : M6.next = (M6.set M.next (.cells (bdRow y w1 (80, 30, 2) .nilSlice) 0 0)).next := rfl
      generalize M6.set M.next (.cells (bdRow y w1 (80, 30, 2) .nilSlice) 0 0) = M7 at s6 fr7 o7 f7 g7 hw7 d57 nx7
      have ld := d57.load (P := prog) (t := 3) ag3 1 (v := .int .i64 b.g.2.1) rfl
      have lsm := d57.load (P := prog) (t := 3) ag3 2 (v := .int .i64 b.g.2.2) rfl
      obtain ⟨u1, u2⟩ := up_range b.g.1
      have c14b := h14 b.g.2.1 (IntKind.i64.wrap (1 + modv b.g.1 100)) M7 (by omega) (by omega)
      have c14c := h14 b.g.2.2 4 M7 (by decide) (by decide)
      have s7 := st_agg (P := prog) (t := 39) (off := 3) (lim := 7) (vs := gpRow (govOf b.g)) o7 sz39 (by simp [gpRow]) (by simp [gpRow, bdRow])
      have hr7 : (bdRow y w1 (80, 30, 2) .nilSlice).take 3 ++ gpRow (govOf b.g) ++ (bdRow y w1 (80, 30, 2) .nilSlice).drop (3 + (gpRow (govOf b.g)).length) = bdRow y w1 (govOf b.g) .nilSlice := rfl
      rw [hr7] at s7
      have fr8 : FrS (· = M.next) M7 (M7.set M.next (.cells (bdRow y w1 (govOf b.g) .nilSlice) 0 0)) := FrS.set (S := (· = M.next)) (id := M.next) FrS.refl (.inr rfl) _
      have o8 : (M7.set M.next (.cells (bdRow y w1 (govOf b.g) .nilSlice) 0 0)).get M.next = some (.cells (bdRow y w1 (govOf b.g) .nilSlice) 0 0) := by rw [Mem.get_set, if_pos rfl]
      have f8 : (M7.set M.next (.cells (bdRow y w1 (govOf b.g) .nilSlice) 0 0)).Fine := f7.set (f7 _ _ o7) _
      have g8 : Gr M (M7.set M.next (.cells (bdRow y w1 (govOf b.g) .nilSlice) 0 0)) := g7.set (Nat.le_refl _) _
      have hw8 : Pts (M7.set M.next (.cells (bdRow y w1 (govOf b.g) .nilSlice) 0 0)) w1 (tbl b.l) := Sl.frs hw7 f7 fr8 (fun i hi e => by have := w1lo i hi; omega)
      have nx8 : M7.next = (M7.set M.next (.cells (bdRow y w1 (govOf b.g) .nilSlice) 0 0)).next := rfl
      generalize M7.set M.next (.cells (bdRow y w1 (govOf b.g) .nilSlice) 0 0) = M8 at s7 fr8 o8 f8 g8 hw8 nx8
      have g08 := hg.trans g8
      have lt8 := (hb2.ext hf0 g08).load (P := prog) (t := 43) ag43 6 (v := b.ts) rfl
      obtain ⟨w2, M9, t1, t2, t3, t4⟩ := h47 b.ts b.tl M8 f8 (hbm.2.1.ext hf0 g08) (by have := hbm.2.2.2; omega)
      have o9 := t3.get f8 o8
      have s9 := ob_store (P := prog) (n := 7) (i := 6) (t := 43) (x := w2) o9 rfl sz43 (by omega) t2.1.plain.1 t2.1.plain.2
      have hr9 : (bdRow y w1 (govOf b.g) .nilSlice).set 6 w2 = bdRow y w1 (govOf b.g) w2 := rfl
      rw [hr9] at s9
      have fr9 : FrS (· = M.next) M9 (M9.set M.next (.cells (bdRow y w1 (govOf b.g) w2) 0 0)) := FrS.set (S := (· = M.next)) (id := M.next) FrS.refl (.inr rfl) _
      have L6 := t3.next; have L7 := g8.next
      have hgv : AVal.agg (gpRow (IntKind.i64.wrap (1 + modv b.g.1 100), modv b.g.2.1 (IntKind.i64.wrap (1 + modv b.g.1 100)), IntKind.i64.wrap (1 + modv b.g.2.2 4))) = .agg (gpRow (govOf b.g)) := rfl
      have s7' : evStore prog M7 39 (.ptr ⟨M.next, 0 + 3, 0, 7⟩) (.agg (gpRow (govOf b.g))) = .val (.tuple []) M8 := s7
      simp +contextual (maxSteps := 5000000) only [fput_some, Nat.reduceEqDiff, if_false, if_true, g0, g10, g13, g14, g15, stepK_ok, onOpK_val, fa124_0, m0, hq1, l0, bR39, n1, onOpK_call, c1, callK_some, l2, m2, sv_hr, svd, Bool.and_true, onStillK_true, bRa, st', hblen, bin_lss, hc, condK_true, hb1, fa45_1, fa45_2, fa45_3, lg, d1, d2, fa39_0, fa39_1, fa39_2, lu, c14a, bin_add, lp, e1, s6, ld, lsm, c14b, sv_int, c14c, hgv, s7', lt8, t1, s9]
      refine fin ⟨y, w1, tbl b.l, govOf b.g, w2, trips b.tl⟩ _ _ ?_ (t4.set (t4 _ _ o9) _) ((g8.trans t3).set (Nat.le_refl _) _) ⟨Sl.frs (hw8.ext f8 t3) t4 fr9 (fun i hi e => by have := w1lo i hi; omega), Sl.frs t2.sl t4 fr9 (fun i hi e => by have := t2.2.1 i hi; omega), Nat.le_trans (tbl_len b.l).2 (by omega), Nat.le_trans (trips_len b.tl) (by omega)⟩ (fun i hi => by have := w1lo i hi; omega) (fun i hi => by have := t2.2.1 i hi; omega) (by rw [Mem.get_set, if_pos rfl]; rfl) ?_ ?_ ?_ ?_ ?_ ?_
      · simp only [Bd.q, cOne, hb]
      all_goals simp only [fput_some, Nat.reduceEqDiff, if_false, if_true, g0, g10, g13, g14, g15]
    · have hbn : bs[pre.length]? = none := by rw [List.getElem?_eq_none_iff]; omega
      have hc : decide ((pre.length : Int) < (bs.length : Int)) = false := by simp; omega
      simp +contextual (maxSteps := 5000000) only [fput_some, Nat.reduceEqDiff, if_false, if_true, g0, g10, g13, g14, g15, stepK_ok, onOpK_val, fa124_0, m0, hq1, l0, bR39, n1, onOpK_call, c1, callK_some, l2, m2, sv_hr, svd, Bool.and_true, onStillK_true, bRa, st', hblen, bin_lss, hc, condK_false]
      refine fin ⟨y, w0, tbl [], (80, 30, 2), .nilSlice, []⟩ _ M3 ?_ f3 g3 ⟨hw3, .inl ⟨rfl, .inl rfl⟩, Nat.le_trans (tbl_len []).2 (by omega), by simp⟩ (fun i hi => by have := w0lo i hi; omega) (fun i hi => (blk_nil hi).elim) o3 ?_ ?_ ?_ ?_ ?_ ?_
      · simp only [Bd.q, cOne, hbn]
      all_goals simp only [fput_some, Nat.reduceEqDiff, if_false, if_true, g0, g10, g13, g14, g15]
end Go.Proofs.Tryz.W
namespace Go.Proofs.Tryz.W
attribute [local congr] stepK_cg onOpK_cg callK_cg condK_cg onStillK_cg

def S13 (e e' : FEnv) : Prop := e' 0 = e 0 ∧ e' 1 = e 1 ∧ e' 2 = e 2 ∧ e' 3 = e 3 ∧ e' 4 = e 4 ∧ e' 10 = e 10
theorem w13a (C : Caller) {M0 : Mem} (hf0 : M0.Fine) {v : AVal} : ∀ (suf pre : List Bd) (e : FEnv) (M : Mem) (h : AVal), Bds M0 v (pre ++ suf) → (pre ++ suf).length ≤ 1000 → pre.length ≤ 5 → M.Fine → Gr M0 M → TipL M h M0.next 2 ((pre.map Bd.y).map hrRow) → e 0 = v → e 11 = h → e 12 = .int .i64 (pre.length : Int) →
    ∃ e' M' h', W13_2 C e M = J13_1 C e' M' ∧ M'.Fine ∧ Gr M0 M' ∧ TipL M' h' M0.next 2 (((pre ++ suf.take (5 - pre.length)).map Bd.y).map hrRow) ∧ e' 11 = h' ∧ S13 e e' := by
  intro suf
  induction suf with
  | nil =>
    intro pre e M h hP hl h5 hf hg hT g0 g11 g12
    have hlen := (hP.ext hf0 hg).1.len un22 M
    simp only [List.append_nil, List.length_map] at hlen
    rw [W13_2_eq]
    simp +contextual only [fput_some, Nat.reduceEqDiff, if_false, if_true, g0, g12, hlen, stepK_ok, onOpK_val, bin_lss, Int.lt_irrefl, decide_false, wantT, stepK_no, pick_b, cond_false, condK_false]
    refine ⟨_, M, h, rfl, hf, hg, by simpa using hT, ?_, ?_⟩
    · simp only [fput_some, Nat.reduceEqDiff, if_false, g11]
    · simp only [S13, fput_some, Nat.reduceEqDiff, if_false, and_self, g0]
  | cons b r ih =>
    intro pre e M h hP hl h5 hf hg hT g0 g11 g12
    have hPM := hP.ext hf0 hg
    have hlen := hPM.1.len un22 M
    simp only [List.length_map] at hlen
    have hlt : decide ((pre.length : Int) < ((pre ++ b :: r).length : Int)) = true := by simp; omega
    have hw : IntKind.i64.wrap ((pre.length : Int) + 1) = ((pre ++ [b]).length : Int) := by
      rw [wrap_i64 (by omega) (by omega)]; simp
    rw [W13_2_eq]
    simp +contextual only [fput_some, Nat.reduceEqDiff, if_false, if_true, g0, g12, hlen, stepK_ok, onOpK_val, bin_lss, hlt, wantT, pick_b, cond_true]
    by_cases h7 : pre.length < 5
    · have h7' : decide ((pre.length : Int) < 5) = true := by simp; omega
      rw [h7']
      simp only [condK_true]
      obtain ⟨q, hq1, hq2, _⟩ := hPM.1.idxA (P := prog) un22 sz45 (i := pre.length) (r := b.row) (by simp)
      have l0 := hq2.loadAggAt (P := prog) (t := 41) (n := 2) ag41 sz41 0 (by show 0 + 2 ≤ 7; omega)
      rw [show AVal.agg (((Bd.row b).drop 0).take 2) = .agg (hrRow b.y) from rfl] at l0
      obtain ⟨u, M1, c1, c2, c3, c4, c5⟩ := row1R (P := prog) (M := M) (t := 104) (x := .agg (hrRow b.y)) un104 zc41' rfl rfl (by omega) hf
      have n6 := c2.sl.news
      rw [show ([AVal.agg (hrRow b.y) |>.cells] : List (List AVal)).flatten = hrRow b.y by simp [AVal.cells]] at n6
      obtain ⟨h', M2, d1, d2, d3, d4, d5⟩ := (hT.ext hf c3).push c4 (Nat.le_trans hg.next c3.next) un104 zc41' (by omega) n6 rfl (fit41 (by simp; omega)) (fit41 (by omega))
      have g2 : Gr M0 M2 := ((FrS.of (S := fun i => M0.next ≤ i) (hg.trans c3)).cat d3 (fun i _ hi => hT.2.1 i hi)).gr (fun i hi h => by omega)
      rw [J13_5_eq]
      simp +contextual (maxSteps := 5000000) only [fput_some, Nat.reduceEqDiff, if_false, if_true, g0, g11, g12, stepK_ok, onOpK_val, hq1, fa45_0, l0, c1, d1]
      rw [J13_7_eq]
      simp only [fput_some, Nat.reduceEqDiff, if_false, if_true, g12, stepK_ok, onOpK_val, bin_add, hw]
      have htk : (b :: r).take (5 - pre.length) = b :: r.take (5 - (pre ++ [b]).length) := by
        rw [show 5 - pre.length = (5 - (pre ++ [b]).length) + 1 by simp; omega, List.take_succ_cons]
      rw [htk, show pre ++ b :: r.take (5 - (pre ++ [b]).length) = (pre ++ [b]) ++ r.take (5 - (pre ++ [b]).length) by simp]
      have key := fun E x0 x11 x12 => ih (pre ++ [b]) E M2 h' (by simpa using hP) (by simpa using hl) (by simp; omega) d4 g2 (by simpa using d2) x0 x11 x12
      refine Exists.imp (fun e' h => Exists.imp (fun M' h => Exists.imp (fun h' h => ⟨h.1, h.2.1, h.2.2.1, h.2.2.2.1, h.2.2.2.2.1, ?_⟩) h) h) (key _ ?_ ?_ ?_)
      all_goals first
        | (simp only [fput_some, Nat.reduceEqDiff, if_false, if_true, g0]; done)
        | (obtain ⟨_, _, _, _, _, s0, s1, s2, s3, s4, s10⟩ := h
           simp only [fput_some, Nat.reduceEqDiff, if_false] at s0 s1 s2 s3 s4 s10
           exact ⟨s0.trans (by rw [g0]), s1, s2, s3, s4, s10⟩)
    · have h8' : pre.length = 5 := by omega
      have h7' : decide ((pre.length : Int) < 5) = false := by simp; omega
      rw [h7']
      simp only [condK_false]
      refine ⟨_, M, h, rfl, hf, hg, by simpa [h8'] using hT, ?_, ?_⟩
      · simp only [fput_some, Nat.reduceEqDiff, if_false, g11]
      · simp only [S13, fput_some, Nat.reduceEqDiff, if_false, and_self, g0]

def limOf (amb lim : Int) : Int := IntKind.i64.wrap (ambOf amb + IntKind.i64.wrap ((IntKind.u64.wrap lim).tmod 80))
def heatsOf (bs : List Bd) : List Hr := (bs.take 5).map Bd.y
def climQ (bs : List Bd) (ls : List Lk) : List Bq := climD bs 0 (someS (heatsOf bs) ls).1
/-- A climate: its domains lie in a slice of one's own. -/
def Clim (M M' : Mem) (cv lv : AVal) (lo : Nat) (rs : List Bd) (ls : List Lk) : Prop :=
  M.next ≤ lo ∧ TipL M' cv lo 7 (rs.map Bd.row) ∧ (∀ b ∈ rs, BdIn M' b ∧ RowOff lo cv b) ∧ Lks M' lv ls ∧ (∀ i, blk lv i → ¬ blk cv i) ∧ (ls = [] → lv = .nilSlice)
def K13 (C : Caller) : Prop := ∀ (v w : AVal) (bs : List Bd) (ls : List Lk) (amb lim bud : Int) (M : Mem), M.Fine → Bds M v bs → Lks M w ls → bs.length ≤ 1000 → ls.length ≤ 1000000 →
    ∃ M' cv lv lo rs, C 13 [v, w, .int .i64 amb, .int .i64 lim, .int .u64 bud] M = some (.agg [cv, lv, .int .i64 (ambOf amb), .int .i64 (limOf amb lim), .int .u64 (bud.tmod 700)], M') ∧ Gr M M' ∧ M'.Fine ∧ Clim M M' cv lv lo rs (someS (heatsOf bs) ls).2 ∧ rs.map Bd.q = climQ bs ls

theorem doms_len (hs : List Hr) : (doms1 hs).length = nOf hs := by
  unfold doms1 nOf
  split
  · rfl
  · rw [List.length_map, List.length_take, Nat.min_comm]
theorem fold_len (n : Nat) : ∀ (ls : List Lk) (s : List Hr × List Lk), (ls.foldl (lkStep n) s).1.length = s.1.length := by
  intro ls
  induction ls with
  | nil => intro s; rfl
  | cons y r ih =>
    intro s
    rw [List.foldl_cons, ih]
    unfold lkStep; split
    · rw [addC_len, addC_len]
    · rfl
theorem some_len (hs : List Hr) (ls : List Lk) : 1 ≤ (someS hs ls).1.length ∧ (someS hs ls).1.length ≤ 5 := by
  unfold someS
  rw [fold_len, doms_len]
  unfold nOf
  split
  · omega
  · rename_i he; have : 0 < hs.length := List.length_pos_iff.mpr he; omega

theorem con13 (C : Caller) (h14 : K14 C) (h45 : K45 C) (h46 : K46 C) (h47 : K47 C) {v w : AVal} {bs : List Bd} {ls : List Lk} {amb lim bud : Int} {M : Mem} (hf : M.Fine) (hP : Bds M v bs) (hQ : Lks M w ls) (hbl : bs.length ≤ 1000) (hll : ls.length ≤ 1000000) :
    ∃ M' cv lv lo rs, J13_0 C (argsF [v, w, .int .i64 amb, .int .i64 lim, .int .u64 bud]) M = some (.agg [cv, lv, .int .i64 (ambOf amb), .int .i64 (limOf amb lim), .int .u64 (bud.tmod 700)], M') ∧ Gr M M' ∧ M'.Fine ∧ Clim M M' cv lv lo rs (someS (heatsOf bs) ls).2 ∧ rs.map Bd.q = climQ bs ls := by
  generalize ha : argsF [v, w, .int .i64 amb, .int .i64 lim, .int .u64 bud] = A
  have a0 : A 0 = v := by rw [← ha]; rfl
  have a1 : A 1 = w := by rw [← ha]; rfl
  have a2 : A 2 = .int .i64 amb := by rw [← ha]; rfl
  have a3 : A 3 = .int .i64 lim := by rw [← ha]; rfl
  have a4 : A 4 = .int .u64 bud := by rw [← ha]; rfl
  have n1 : evNew M (zero prog 35) = .val (.ptr ⟨M.next, 0, 0, 5⟩) (M.alloc (.cells [.nilSlice, .nilSlice, .int .i64 0, .int .i64 0, .int .u64 0] 0 0)) := by rw [evNew_one z35s, z35c]; rfl
  have g1 : Gr M (M.alloc (.cells [.nilSlice, .nilSlice, .int .i64 0, .int .i64 0, .int .u64 0] 0 0)) := Gr.alloc _ _
  have f1 : (M.alloc (.cells [.nilSlice, .nilSlice, .int .i64 0, .int .i64 0, .int .u64 0] 0 0)).Fine := hf.alloc _
  have o1 : (M.alloc (.cells [.nilSlice, .nilSlice, .int .i64 0, .int .i64 0, .int .u64 0] 0 0)).get M.next = some (.cells [.nilSlice, .nilSlice, .int .i64 0, .int .i64 0, .int .u64 0] 0 0) := by rw [Mem.get_alloc, if_pos rfl]
  have nx1 : (M.alloc (.cells [.nilSlice, .nilSlice, .int .i64 0, .int .i64 0, .int .u64 0] 0 0)).next = M.next + 1 := rfl
  generalize M.alloc (.cells [.nilSlice, .nilSlice, .int .i64 0, .int .i64 0, .int .u64 0] 0 0) = M1 at n1 g1 f1 o1 nx1
  have main : ∀ E : FEnv, E 0 = v → E 1 = w → E 2 = .int .i64 amb → E 3 = .int .i64 lim → E 4 = .int .u64 bud → E 10 = .ptr ⟨M.next, 0, 0, 5⟩ → E 11 = .nilSlice → E 12 = .int .i64 ((0 : Nat) : Int) →
      ∃ M' cv lv lo rs, W13_2 C E M1 = some (.agg [cv, lv, .int .i64 (ambOf amb), .int .i64 (limOf amb lim), .int .u64 (bud.tmod 700)], M') ∧ Gr M M' ∧ M'.Fine ∧ Clim M M' cv lv lo rs (someS (heatsOf bs) ls).2 ∧ rs.map Bd.q = climQ bs ls := by
    intro E x0 x1 x2 x3 x4 x10 x11 x12
    obtain ⟨e1, M2, h', i1, i2, i3, i4, y11, y0, y1, y2, y3, y4, y10⟩ := w13a C f1 (v := v) bs [] E M1 .nilSlice (hP.ext hf g1) hbl (by simp) f1 (Gr.refl _) .nil x0 x11 x12
    rw [x0] at y0; rw [x1] at y1; rw [x2] at y2; rw [x3] at y3; rw [x4] at y4; rw [x10] at y10
    have hh : Hrs M2 h' (heatsOf bs) := by
      exact i4.sl
    have g2 := g1.trans i3
    have hhl : (heatsOf bs).length ≤ 5 := by unfold heatsOf; rw [List.length_map, List.length_take]; omega
    obtain ⟨M3, dv, lv, c1, c2, c3, c4, c5, c6, c7⟩ := h45 h' w (heatsOf bs) ls amb M2 i2 hh (hQ.ext hf g2) (by omega) hll
    obtain ⟨M4, M5, b1, b2, b3, b4, b5, b6, b7⟩ := box_agg (P := prog) (M := M3) (t := 124) (vs := [dv, lv, .int .i64 (ambOf amb)]) z124s z124l sz124 rfl (by omega) c5
    have l1 := b5.load (P := prog) (t := 23) ag23 1 (v := lv) rfl
    have l2 := b5.load (P := prog) (t := 2) ag2 2 (v := .int .i64 (ambOf amb)) rfl
    have bR := bR35 (lv := lv) c3.plain (ambOf amb) (limOf amb lim) (bud.tmod 700) M5
    obtain ⟨M6, M7, d1, d2, d3, d4, d5, d6, d7⟩ := box_agg (P := prog) (M := M5) (t := 35) (vs := [.nilSlice, lv, .int .i64 (ambOf amb), .int .i64 (limOf amb lim), .int .u64 (bud.tmod 700)]) z35s (by rw [z35c]; rfl) sz35 rfl (by omega) b4
    have g3 := g2.trans c4
    have g7 := (g3.trans b3).trans d3
    have L1 := i3.next; have L2 := c4.next; have L3 := b3.next; have L4 := d3.next; have L0 := g3.next
    have hlim : IntKind.i64.wrap (ambOf amb + IntKind.i64.wrap ((IntKind.u64.wrap lim).tmod 80)) = limOf amb lim := rfl
    have hI : Inv13 M7 M7.next M.next M3.next M5.next dv lv .nilSlice (ambOf amb) (limOf amb lim) (bud.tmod 700) (someS (heatsOf bs) ls).1 (someS (heatsOf bs) ls).2 [] :=
      ⟨by omega, by omega, by omega, by omega, by omega, (d3.get b4 (b3.get c5 (c4.get i2 (i3.get f1 o1)))), d3.get b4 b6, d6, (c2.ext c5 b3).ext b4 d3, fun i hi => by have := c2.blk_lt c5 hi; exact ⟨by omega, by omega⟩, (c3.ext c5 b3).ext b4 d3, fun i hi => by have := c3.blk_lt c5 hi; exact ⟨by omega, by omega⟩, .nil, fun b hb => by cases hb⟩
    have hsl := some_len (heatsOf bs) ls
    have fin : ∀ E' : FEnv, E' 0 = v → E' 10 = .ptr ⟨M.next, 0, 0, 5⟩ → E' 13 = .ptr ⟨M3.next, 0, 0, 3⟩ → E' 14 = .ptr ⟨M5.next, 0, 0, 5⟩ → E' 15 = .int .i64 ((0 : Nat) : Int) →
        ∃ M' cv lv lo rs, W13_4 C E' M7 = some (.agg [cv, lv, .int .i64 (ambOf amb), .int .i64 (limOf amb lim), .int .u64 (bud.tmod 700)], M') ∧ Gr M M' ∧ M'.Fine ∧ Clim M M' cv lv lo rs (someS (heatsOf bs) ls).2 ∧ rs.map Bd.q = climQ bs ls := by
      intro E' z0 z10 z13 z14 z15
      obtain ⟨e2, M8, cv, rs, j1, j2, j3, j4, j5, j6, k10, k14⟩ := w13b C h14 h46 h47 hf hP hbl (B := M7.next) (rb := M.next) (sb := M3.next) (cb := M5.next) (dv := dv) (lv := lv) (ds := (someS (heatsOf bs) ls).1) (by omega) (by omega) (by omega) (someS (heatsOf bs) ls).1 [] [] E' M7 .nilSlice rfl d4 g7 (Nat.le_refl _) hI rfl z0 z10 z13 z14 z15
      have l8 := (ob_el (n := 5) j5.ocb rfl).loadAgg (P := prog) (t := 35) ag35 sz35
      have st := st_agg (P := prog) (t := 35) (off := 0) (lim := 5) (vs := [cv, lv, .int .i64 (ambOf amb), .int .i64 (limOf amb lim), .int .u64 (bud.tmod 700)]) j5.orb sz35 (by simp) (by simp)
      have hrow : ([AVal.nilSlice, .nilSlice, .int .i64 0, .int .i64 0, .int .u64 0] : List AVal).take 0 ++ [cv, lv, .int .i64 (ambOf amb), .int .i64 (limOf amb lim), .int .u64 (bud.tmod 700)] ++ ([AVal.nilSlice, .nilSlice, .int .i64 0, .int .i64 0, .int .u64 0] : List AVal).drop (0 + [cv, lv, AVal.int .i64 (ambOf amb), .int .i64 (limOf amb lim), .int .u64 (bud.tmod 700)].length) = [cv, lv, .int .i64 (ambOf amb), .int .i64 (limOf amb lim), .int .u64 (bud.tmod 700)] := rfl
      rw [hrow] at st
      have o9 : (M8.set M.next (.cells [cv, lv, .int .i64 (ambOf amb), .int .i64 (limOf amb lim), .int .u64 (bud.tmod 700)] 0 0)).get M.next = some (.cells [cv, lv, .int .i64 (ambOf amb), .int .i64 (limOf amb lim), .int .u64 (bud.tmod 700)] 0 0) := by rw [Mem.get_set, if_pos rfl]
      have fr : FrS (· = M.next) M8 (M8.set M.next (.cells [cv, lv, .int .i64 (ambOf amb), .int .i64 (limOf amb lim), .int .u64 (bud.tmod 700)] 0 0)) := FrS.set (S := (· = M.next)) (id := M.next) FrS.refl (.inr rfl) _
      have g9 : Gr M (M8.set M.next (.cells [cv, lv, .int .i64 (ambOf amb), .int .i64 (limOf amb lim), .int .u64 (bud.tmod 700)] 0 0)) := j3.set (Nat.le_refl _) _
      have f9 : (M8.set M.next (.cells [cv, lv, .int .i64 (ambOf amb), .int .i64 (limOf amb lim), .int .u64 (bud.tmod 700)] 0 0)).Fine := j2.set (j2 _ _ j5.orb) _
      have hlv : ∀ i, blk lv i → i ≠ M.next := fun i hi => by
        have := c6 i hi; omega
      generalize M8.set M.next (.cells [cv, lv, .int .i64 (ambOf amb), .int .i64 (limOf amb lim), .int .u64 (bud.tmod 700)] 0 0) = M9 at st o9 fr g9 f9
      have l9 := (ob_el (n := 5) o9 rfl).loadAgg (P := prog) (t := 35) ag35 sz35
      have nB : ∀ i, M7.next ≤ i → i ≠ M.next := fun i hi => by omega
      rw [j1, J13_3_eq]
      simp +contextual only [fput_some, Nat.reduceEqDiff, if_false, if_true, k10, k14, stepK_ok, onOpK_val, l8, st]
      rw [res13]
      refine ⟨M9, cv, lv, M7.next, rs, ret_cell (p := ⟨M.next, 0, 0, 5⟩) ?_ l9, g9, f9, ⟨by omega, ⟨j5.tc.1.frs j2 fr (fun i hi e => nB i (j5.tc.2.1 i hi) e), j5.tc.2⟩, fun b hb => ⟨(j5.rows b hb).1.frs j2 fr (fun i hi e => nB i ((j5.rows b hb).2.1 i hi).1 e) (fun i hi e => nB i ((j5.rows b hb).2.2 i hi).1 e), (j5.rows b hb).2⟩, Sl.frs j5.hl j2 fr (fun i hi e => hlv i hi e), fun i hi hc => by have := (j5.hlB i hi).1; have := j5.tc.2.1 i hc; omega, c7⟩, j6⟩
      simp only [fput_some, Nat.reduceEqDiff, if_false, k10]
    rw [i1, J13_1_eq]
    simp +contextual (maxSteps := 5000000) only [fput_some, Nat.reduceEqDiff, if_false, if_true, y0, y1, y2, y3, y4, y10, y11, stepK_ok, onOpK_val, onOpK_call, c1, callK_some, b1, b2, fa124_1, fa124_2, l1, l2, conv_int un2 un24, conv_int un24 un2, bin_rem (show (80 : Int) ≠ 0 by decide), bin_rem (show (700 : Int) ≠ 0 by decide), bin_add, hlim, bR, d1, d2]
    refine fin _ ?_ ?_ ?_ ?_ ?_ <;> simp only [fput_some, Nat.reduceEqDiff, if_false, if_true, y0, y10] <;> rfl
  rw [J13_0_eq]
  simp +contextual only [fput_some, Nat.reduceEqDiff, if_false, if_true, stepK_ok, onOpK_val, n1]
  refine main _ ?_ ?_ ?_ ?_ ?_ ?_ ?_ ?_ <;> simp only [fput_some, Nat.reduceEqDiff, if_false, if_true, a0, a1, a2, a3, a4] <;> rfl
theorem k13 {L : Lib} (h : L 13 = none) (h14 : K14 (callW prog L)) (h45 : K45 (callW prog L)) (h46 : K46 (callW prog L)) (h47 : K47 (callW prog L)) : K13 (callW prog L) := fun v w bs ls amb lim bud M hf hP hQ h1 h2 => by
  rw [run13 h]; exact con13 _ h14 h45 h46 h47 hf hP hQ h1 h2
end Go.Proofs.Tryz.W
namespace Go.Proofs.Tryz.W
attribute [local congr] stepK_cg onOpK_cg callK_cg condK_cg onStillK_cg

/-- An element's field of a slice of one's own is written. -/
theorem TipL.fieldStore {M : Mem} {v x : AVal} {lo sz i j : Nat} {rows : List (List AVal)} {r : List AVal} {t e t1 : TypeId} (h : TipL M v lo sz rows) (hf : M.Fine) (ht : prog.underlying t = some (.slice e)) (hs : size? prog e = some sz) (hr : rows[i]? = some r) (hj : j < sz) (hs1 : size? prog t1 = some 1) (hx : x.solid = true) (hx1 : x.cells = [x]) :
    ∃ id off ep lim M', (∀ N, evIndexAddr prog N t v (.int .i64 (i : Int)) = .val (.ptr ⟨id, off, ep, lim⟩) N) ∧ El M ⟨id, off, ep, lim⟩ r ∧ evStore prog M t1 (.ptr ⟨id, off + j, ep, lim⟩) x = .val (.tuple []) M' ∧ TipL M' v lo sz (rows.set i (r.set j x)) ∧ FrS (blk v) M M' ∧ M'.Fine := by
  obtain ⟨hi, hr'⟩ := List.getElem?_eq_some_iff.mp hr
  obtain ⟨h1, h2, h3⟩ := h
  have hl : r.length = sz := h3 r (List.mem_of_getElem? hr)
  rcases h1 with ⟨_, hn, _⟩ | ⟨id, ep, lo', rfl, g1, g2, g3⟩
  · omega
  · have hle : i * sz + sz ≤ rows.length * sz := by rw [← Nat.succ_mul]; exact Nat.mul_le_mul_right _ hi
    have e1 : (Go.VE.elemOf prog t).bind (size? prog) = some sz := by unfold Go.VE.elemOf; simp only [ht, Option.bind_some]; exact hs
    have e3 : Nat.blt i rows.length = true := by unfold Nat.blt; exact Nat.ble_eq_true_of_le hi
    have hfl := flat_len h3
    have st := store_one (P := prog) (M := M) (t := t1) hs1 (a := ⟨id, i * sz + j, ep, rows.flatten.length⟩) g1 rfl (by show i * sz + j + 1 ≤ rows.flatten.length; omega) (v := x) hx hx1 (by show i * sz + j < rows.flatten.length; omega)
    simp only at st
    rw [flat_set1 x h3 hr hj] at st
    have hset : ∀ q ∈ rows.set i (r.set j x), q.length = sz := fun q hq => by
      rcases List.mem_or_eq_of_mem_set hq with h' | h'
      · exact h3 q h'
      · rw [h', List.length_set]; exact hl
    refine ⟨id, i * sz, ep, rows.flatten.length, _, fun N => ?_, ⟨rows.flatten, ep, lo', g1, g2, by show i * sz + r.length ≤ rows.flatten.length; omega, ?_⟩, st, ⟨.inr ⟨id, ep, ep, ?_, by rw [Mem.get_set, if_pos rfl], Nat.le_refl _, by rw [flat_len hset, List.length_set]⟩, h2, hset⟩, FrS.refl.set (.inr ⟨_, _, _, _, _, rfl, rfl⟩) _, hf.set (hf _ _ g1) _⟩
    · unfold evIndexAddr
      simp only [e1, Nat.beq_refl, natIn_nat (q := .i64) (Nat.le_of_lt hi), e3, Nat.zero_add]
    · show (rows.flatten.drop (i * sz)).take r.length = r
      rw [hl]; exact flat_row h3 hr
    · rw [flat_len hset, List.length_set, hfl]

theorem un27 : ∃ e, prog.underlying 27 = some (.pointer e) := ⟨103, by kernel_rfl⟩
theorem ptr_nil {M : Mem} (p : AVal) (b : Bool) (h : (p = .nilPtr ∧ b = true) ∨ ((∃ a, p = .ptr a) ∧ b = false)) : evBin prog M .eql 27 p .nilPtr = .val (.bool b) M := by
  obtain ⟨e, ht⟩ := un27
  rcases h with ⟨rfl, rfl⟩ | ⟨⟨a, rfl⟩, rfl⟩
  · show OpR.ofOpt M ((eqVal prog 27 .nilPtr .nilPtr).map .bool) = _
    unfold eqVal; rw [ht]; rfl
  · show OpR.ofOpt M ((eqVal prog 27 (.ptr a) .nilPtr).map .bool) = _
    unfold eqVal; rw [ht]; rfl

def K10 (C : Caller) : Prop := ∀ M, C 10 [] M = some (.bool true, M)
theorem tail3 (C : Caller) (h10 : K10 C) (h11 : K11 C) (h12 : K12 C) {cb : Nat} {cv lv : AVal} {am lm bu c1 : Int} {a15 : AVal} {rs : List Bd} {ls : List Lk} (E : FEnv) (M : Mem) (hf : M.Fine) (ho : M.get cb = some (.cells [cv, lv, .int .i64 am, .int .i64 lm, .int .u64 bu] 0 0)) (hP : Bds M cv rs) (hQ : Lks M lv ls) (hr : rs.length ≤ 1000) (hl : ls.length ≤ 1000000)
    (h15 : (a15 = .nilPtr ∧ c1 = 1) ∨ ((∃ a, a15 = .ptr a) ∧ c1 = 0)) (x15 : E 15 = a15) (x16 : E 16 = .int .i64 c1) (x18 : E 18 = .int .i64 c1) (x19 : E 19 = .ptr ⟨cb, 0, 0, 5⟩) : ∃ M', J3_2 C E M = some (.bool true, M') := by
  have o := ob_el (n := 5) ho rfl
  have l0 := o.load (P := prog) (t := 22) ag22 0 (v := cv) rfl
  have l1 := o.load (P := prog) (t := 23) ag23 1 (v := lv) rfl
  have l2 := o.load (P := prog) (t := 2) ag2 2 (v := .int .i64 am) rfl
  have l3 := o.load (P := prog) (t := 2) ag2 3 (v := .int .i64 lm) rfl
  have l4 := o.load (P := prog) (t := 24) ag24 4 (v := .int .u64 bu) rfl
  obtain ⟨M1, p, q1, q2, q3, q4⟩ : ∃ M1 p, C 11 [cv, lv, .int .i64 am, .int .i64 lm, .int .u64 bu] M = some (.tuple [p, .int .i64 (if tOk rs ls am lm bu = true then 0 else 1)], M1) ∧ Gr M M1 ∧ M1.Fine ∧ ((p = .nilPtr ∧ tOk rs ls am lm bu = false) ∨ ((∃ a, p = .ptr a) ∧ tOk rs ls am lm bu = true)) := by
    rcases h11 cv lv rs ls am lm bu M hf hP hQ (by omega) hl with ⟨ht, M1, r1, r2, r3⟩ | ⟨ht, M1, o, r1, r2, r3⟩
    · exact ⟨M1, _, by rw [r1, ht]; rfl, r2, r3, .inl ⟨rfl, ht⟩⟩
    · exact ⟨M1, _, by rw [r1, ht]; rfl, r2, r3, .inr ⟨⟨_, rfl⟩, ht⟩⟩
  have o1 := o.ext hf q2
  have m0 := o1.load (P := prog) (t := 22) ag22 0 (v := cv) rfl
  have m1 := o1.load (P := prog) (t := 23) ag23 1 (v := lv) rfl
  have m2 := o1.load (P := prog) (t := 2) ag2 2 (v := .int .i64 am) rfl
  have m3 := o1.load (P := prog) (t := 2) ag2 3 (v := .int .i64 lm) rfl
  have m4 := o1.load (P := prog) (t := 24) ag24 4 (v := .int .u64 bu) rfl
  obtain ⟨M2, p2, r1, r2, r3⟩ := h12 cv lv rs ls am lm bu M1 q3 (hP.ext hf q2) (hQ.ext hf q2) (by omega) hl
  have x11a : ∀ N, evExtract N (.tuple [p, .int .i64 (if tOk rs ls am lm bu = true then 0 else 1)]) 0 = .val p N := fun N => Eq.trans rfl rfl
  have x11b : ∀ N, evExtract N (.tuple [p, .int .i64 (if tOk rs ls am lm bu = true then 0 else 1)]) 1 = .val (.int .i64 (if tOk rs ls am lm bu = true then 0 else 1)) N := fun N => Eq.trans rfl rfl
  have x12a : ∀ N, evExtract N (.tuple [p2, .int .i64 (if tOk rs ls am lm bu = true then 0 else 1)]) 0 = .val p2 N := fun N => Eq.trans rfl rfl
  have x12b : ∀ N, evExtract N (.tuple [p2, .int .i64 (if tOk rs ls am lm bu = true then 0 else 1)]) 1 = .val (.int .i64 (if tOk rs ls am lm bu = true then 0 else 1)) N := fun N => Eq.trans rfl rfl
  have e1 : ∀ N, evBin prog N .eql 27 a15 .nilPtr = .val (.bool (c1 != 0)) N := fun N => by
    apply ptr_nil
    rcases h15 with ⟨h, rfl⟩ | ⟨h, rfl⟩
    · exact .inl ⟨h, rfl⟩
    · exact .inr ⟨h, rfl⟩
  have nz : ∀ x : Bool, ((if x = true then (0 : Int) else 1) != 0) = !x := fun x => by cases x <;> rfl
  have e2 : ∀ N, evBin prog N .eql 27 p .nilPtr = .val (.bool (!tOk rs ls am lm bu)) N := fun N => by
    apply ptr_nil
    rcases q4 with ⟨h, h'⟩ | ⟨h, h'⟩
    · exact .inl ⟨h, by rw [h']; rfl⟩
    · exact .inr ⟨h, by rw [h']; rfl⟩
  rw [J3_2_eq]
  simp +contextual (maxSteps := 5000000) only [fput_some, Nat.reduceEqDiff, if_false, if_true, x15, x16, x18, x19, stepK_ok, onOpK_val, fa35_0, fa35_1, fa35_2, fa35_3, fa35_4, l0, l1, l2, l3, l4, onOpK_call, q1, callK_some, x11a, x11b, m0, m1, m2, m3, m4, r1, x12a, x12b, bin_eql, bin_neq, nz, beq_self_eq_true, wantT, stepK_ok, e1, e2, bin_bool_eql un4, pick_b, cond_true, h10 M2]
  exact ⟨M2, rfl⟩
end Go.Proofs.Tryz.W
