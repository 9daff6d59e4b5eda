/-
  Part of a proof over this seat: see the last text.
-/
import Derived.Test.YtiikicpepnaghaaGreatDoorM44f
import Derived.Test.YtiikicpepnaghaaGreatDoorVeRead
import Derived.Test.YtiikicpepnaghaaGreatDoorA44
set_option linter.unusedSimpArgs false
set_option linter.unusedVariables false
open Go Go.VE
namespace Go.Proofs.Tryz.W
attribute [local congr] stepK_cg onOpK_cg callK_cg condK_cg onStillK_cg

theorem clim_set {M M' : Mem} {lo : Nat} {cv : AVal} {rs : List Bd} {i : Nat} {b' : Bd} (hf : M.Fine) (hfr : FrS (blk cv) M M') (hrows : ∀ b ∈ rs, BdIn M b ∧ RowOff lo cv b) (hb' : BdIn M' b') (ht : TipL M' cv lo 7 ((rs.map Bd.row).set i b'.row)) : Bds M' cv (rs.set i b') := by
  refine ⟨by rw [List.map_set]; exact ht.sl, fun b hb => ?_⟩
  rcases List.mem_or_eq_of_mem_set hb with h | h
  · exact (hrows b h).1.frs hf hfr (fun i hi => ((hrows b h).2.1 i hi).2) (fun i hi => ((hrows b h).2.2 i hi).2)
  · rw [h]; exact hb'

/-- The first m links. -/
theorem lks_take {M : Mem} {lv : AVal} {ls : List Lk} (h : Lks M lv ls) (hn : ls = [] → lv = .nilSlice) {m : Nat} (hm : m ≤ ls.length) : ∃ u, (∀ N, evSlice prog N 23 lv none (some (.int .i64 (m : Int))) none = .val u N) ∧ Lks M u (ls.take m) ∧ Cell1 u ∧ ∀ i, blk u i → blk lv i := by
  cases ls with
  | nil =>
    obtain rfl := hn rfl
    have : m = 0 := by simpa using hm
    subst this
    refine ⟨.nilSlice, fun N => ?_, .inl ⟨rfl, .inl rfl⟩, ⟨rfl, rfl⟩, fun i hi => hi⟩
    have e1 : (Go.VE.elemOf prog 23).bind (size? prog) = some 3 := by unfold Go.VE.elemOf; simp only [un23, Option.bind_some]; exact sz210
    unfold evSlice
    simp only [e1]
    rfl
  | cons y r =>
    rcases h with ⟨h, _⟩ | ⟨a, cap, ex, rfl, hc, hsz, cs, ep, lo, g1, g2, g3, g4⟩
    · cases h
    · have e1 : (Go.VE.elemOf prog 23).bind (size? prog) = some 3 := by unfold Go.VE.elemOf; simp only [un23, Option.bind_some]; exact sz210
      have hp : 0 < cap := Nat.lt_of_lt_of_le (by simp) hc
      have e2 : Nat.blt 0 cap = true := by unfold Nat.blt; exact Nat.ble_eq_true_of_le hp
      have hlen : ((y :: r).map lkRow).length = (y :: r).length := List.length_map ..
      have hst : ∀ q ∈ ((y :: r).take m).map lkRow, q.length = 3 := fun q hq => by obtain ⟨z, _, rfl⟩ := List.mem_map.mp hq; rfl
      have hfl := flat_len hsz
      have hft := flat_len hst
      have htl : (((y :: r).take m).map lkRow).length = m := by rw [List.length_map, List.length_take, Nat.min_eq_left hm]
      rw [htl] at hft
      have hmc : m ≤ cap := by omega
      refine ⟨.slice { a with off := a.off + 0 * 3, lim := a.off + cap * 3 } 3 (m - 0) (cap - 0) (ex || false), fun N => ?_, .inr ⟨{ a with off := a.off + 0 * 3, lim := a.off + cap * 3 }, cap - 0, ex || false, by rw [htl, Nat.sub_zero], by rw [htl]; omega, hst, cs, ep, lo, g1, g2, ?_, ?_⟩, ⟨rfl, rfl⟩, fun i hi => ⟨_, _, _, _, _, rfl, (blk_slice hi).symm⟩⟩
      · unfold evSlice
        simp only [e1, Nat.beq_refl]
        unfold evSliceOf
        simp only [bound, natIn_nat (q := .i64) hmc, e2]
        rfl
      · show a.off + 0 * 3 + (((y :: r).take m).map lkRow).flatten.length ≤ a.off + cap * 3
        rw [hft]; omega
      · show (cs.drop (a.off + 0 * 3)).take (((y :: r).take m).map lkRow).flatten.length = _
        rw [hft, Nat.zero_mul, Nat.add_zero, List.map_take]
        have := flat_take (sz := 3) (rows := (y :: r).map lkRow) m hsz
        rw [← this, ← g4, List.take_take, Nat.min_eq_left (by rw [hfl, hlen]; omega)]

theorem switch3 (C : Caller) (h10 : K10 C) (h11 : K11 C) (h12 : K12 C) (h13 : K13 C) (h14 : K14 C) {v w : AVal} {bs : List Bd} {ls : List Lk} {amb lim bud k how : Int} {M : Mem} (hf : M.Fine) (hP : Bds M v bs) (hQ : Lks M w ls) (hbl : bs.length ≤ 10) (hll : ls.length ≤ 20)
    (E : FEnv) (x0 : E 0 = v) (x1 : E 1 = w) (x2 : E 2 = .int .i64 amb) (x3 : E 3 = .int .i64 lim) (x4 : E 4 = .int .u64 bud) (x5 : E 5 = .int .i64 k) (x6 : E 6 = .int .u8 how) : ∃ M', J3_1 C E M = some (.bool true, M') := by
  -- the first two calls
  obtain ⟨M1, p, q1, q2, q3, q4⟩ : ∃ M1 p, C 11 [v, w, .int .i64 amb, .int .i64 lim, .int .u64 bud] M = some (.tuple [p, .int .i64 (if tOk bs ls amb lim bud = true then 0 else 1)], M1) ∧ Gr M M1 ∧ M1.Fine ∧ ((p = .nilPtr ∧ (if tOk bs ls amb lim bud = true then (0 : Int) else 1) = 1) ∨ ((∃ a, p = .ptr a) ∧ (if tOk bs ls amb lim bud = true then (0 : Int) else 1) = 0)) := by
    rcases h11 v w bs ls amb lim bud M hf hP hQ (by omega) (by omega) with ⟨ht, M1, r1, r2, r3⟩ | ⟨ht, M1, o, r1, r2, r3⟩
    · exact ⟨M1, _, by rw [r1, ht]; rfl, r2, r3, .inl ⟨rfl, by rw [ht]; rfl⟩⟩
    · exact ⟨M1, _, by rw [r1, ht]; rfl, r2, r3, .inr ⟨⟨_, rfl⟩, by rw [ht]; rfl⟩⟩
  obtain ⟨M2, p2, r1, r2, r3⟩ := h12 v w bs ls amb lim bud M1 q3 (hP.ext hf q2) (hQ.ext hf q2) (by omega) (by omega)
  generalize hc1 : (if tOk bs ls amb lim bud = true then (0 : Int) else 1) = c1 at q1 q4 r1
  have g2 := q2.trans r2
  obtain ⟨M3, cv, lv, lo, rs, s1, s2, s3, ⟨s4, s5, s6, s7, s8, s10⟩, s9⟩ := h13 v w bs ls amb lim bud M2 r3 (hP.ext hf g2) (hQ.ext hf g2) (by omega) (by omega)
  have hrl : rs.length = (someS (heatsOf bs) ls).1.length := by
    have := congrArg List.length s9
    rw [List.length_map] at this
    rw [this]
    have : ∀ (l : List Hr) (i : Nat), (climD bs i l).length = l.length := fun l => by
      induction l with
      | nil => intro i; rfl
      | cons a t ih => intro i; show (climD bs (i + 1) t).length + 1 = _; rw [ih]; rfl
    exact this _ 0
  have hsl := some_len (heatsOf bs) ls
  have hls2 : (someS (heatsOf bs) ls).2.length ≤ 12 := by
    have : ∀ (l : List Lk) (n : Nat) (s : List Hr × List Lk), (l.foldl (lkStep n) s).2.length ≤ s.2.length + l.length := fun l n => by
      induction l with
      | nil => intro s; simp
      | cons y r ih =>
        intro s
        rw [List.foldl_cons]
        refine Nat.le_trans (ih _) ?_
        unfold lkStep; split <;> simp <;> omega
    refine Nat.le_trans (this _ _ _) ?_
    simp only [List.length_nil, List.length_take]; omega
  generalize hls' : (someS (heatsOf bs) ls).2 = ls' at s7 hls2 s10
  obtain ⟨M4, M5, b1, b2, b3, b4, b5, b6, b7⟩ := box_agg (P := prog) (M := M3) (t := 35) (vs := [cv, lv, .int .i64 (ambOf amb), .int .i64 (limOf amb lim), .int .u64 (bud.tmod 700)]) z35s (by rw [z35c]; rfl) sz35 rfl (by omega) s3
  have l0 := b5.load (P := prog) (t := 22) ag22 0 (v := cv) rfl
  have l1 := b5.load (P := prog) (t := 23) ag23 1 (v := lv) rfl
  have l2 := b5.load (P := prog) (t := 2) ag2 2 (v := .int .i64 (ambOf amb)) rfl
  have tc := s5.ext s3 b3
  have hcl := tc.sl.len un22 M5
  simp only [List.length_map] at hcl
  have rows5 : ∀ b ∈ rs, BdIn M5 b ∧ RowOff lo cv b := fun b hb => ⟨(s6 b hb).1.ext s3 b3, (s6 b hb).2⟩
  have lk5 : Lks M5 lv ls' := s7.ext s3 b3
  have hB5 : Bds M5 cv rs := ⟨tc.sl, fun b hb => (rows5 b hb).1⟩
  have cvlt : ∀ i, blk cv i → i < M3.next := fun i hi => s5.1.blk_lt s3 hi
  have lvlt : ∀ i, blk lv i → i < M3.next := fun i hi => s7.blk_lt s3 hi
  have hcv : ¬ blk cv M3.next := fun h => by have := cvlt _ h; omega
  have c14 := h14 k (rs.length : Int) M5 (by omega) (by omega)
  obtain ⟨ri0, ri1⟩ := modv_range k (n := (rs.length : Int)) (by omega) (by omega)
  obtain ⟨ni, hni⟩ := Int.eq_ofNat_of_zero_le ri0
  have hni' : ni < rs.length := by omega
  obtain ⟨b, hbi⟩ : ∃ b, rs[ni]? = some b := ⟨rs[ni], List.getElem?_eq_getElem hni'⟩
  have hbm := List.mem_of_getElem? hbi
  have hbr : (rs.map Bd.row)[ni]? = some b.row := by rw [List.getElem?_map, hbi]; rfl
  have exA0 : ∀ N, evExtract N (.tuple [p, .int .i64 c1]) 0 = .val p N := fun N => Eq.trans rfl rfl
  have exA1 : ∀ N, evExtract N (.tuple [p, .int .i64 c1]) 1 = .val (.int .i64 c1) N := fun N => Eq.trans rfl rfl
  have exB0 : ∀ N, evExtract N (.tuple [p2, .int .i64 c1]) 0 = .val p2 N := fun N => Eq.trans rfl rfl
  have exB1 : ∀ N, evExtract N (.tuple [p2, .int .i64 c1]) 1 = .val (.int .i64 c1) N := fun N => Eq.trans rfl rfl
  -- a change of the box alone
  have boxed : ∀ (row : List AVal) (cv' lv' : AVal) (am lm bu : Int) (rs' : List Bd) (ls'' : List Lk), row = [cv', lv', .int .i64 am, .int .i64 lm, .int .u64 bu] → (∀ M' : Mem, FrS (· = M3.next) M5 M' → M'.Fine → Bds M' cv' rs' ∧ Lks M' lv' ls'') → rs'.length ≤ 1000 → ls''.length ≤ 1000000 → ∀ F : FEnv, F 15 = p → F 16 = .int .i64 c1 → F 18 = .int .i64 c1 → F 19 = .ptr ⟨M3.next, 0, 0, 5⟩ → ∃ M', J3_2 C F (M5.set M3.next (.cells row 0 0)) = some (.bool true, M') := by
    intro row cv' lv' am lm bu rs' ls'' hrow hh hr hl F y15 y16 y18 y19
    have fr : FrS (· = M3.next) M5 (M5.set M3.next (.cells row 0 0)) := FrS.set (S := (· = M3.next)) (id := M3.next) FrS.refl (.inr rfl) _
    have f6 : (M5.set M3.next (.cells row 0 0)).Fine := b4.set (b4 _ _ b6) _
    obtain ⟨hB, hL⟩ := hh _ fr f6
    exact tail3 C h10 h11 h12 (cb := M3.next) F _ f6 (by rw [Mem.get_set, if_pos rfl, hrow]) hB hL hr hl q4 y15 y16 y18 y19
  have keep : ∀ M' : Mem, FrS (· = M3.next) M5 M' → M'.Fine → Bds M' cv rs ∧ Lks M' lv ls' := fun M' fr _ =>
    ⟨⟨Sl.frs tc.sl b4 fr (fun i hi e => by have := cvlt i hi; omega), fun b hb => (rows5 b hb).1.frs b4 fr (fun i hi e => by have := (s6 b hb).1.1.blk_lt s3 hi; omega) (fun i hi e => by have := (s6 b hb).1.2.1.blk_lt s3 hi; omega)⟩, Sl.frs lk5 b4 fr (fun i hi e => by have := lvlt i hi; omega)⟩
  -- a change of an element
  have elem : ∀ (b' : Bd) (M' : Mem), b'.ps = b.ps ∨ b'.ps = .nilSlice → b'.ts = b.ts → (b'.ps = b.ps → b'.l = b.l) → (b'.ps = .nilSlice → b'.l = []) → b'.tl = b.tl → TipL M' cv lo 7 ((rs.map Bd.row).set ni b'.row) → FrS (blk cv) M5 M' → M'.Fine → ∀ F : FEnv, F 15 = p → F 16 = .int .i64 c1 → F 18 = .int .i64 c1 → F 19 = .ptr ⟨M3.next, 0, 0, 5⟩ → ∃ M'', J3_2 C F M' = some (.bool true, M'') := by
    intro b' M' hps hts hl1 hl2 htl ht fr f' F y15 y16 y18 y19
    have hb5 := rows5 b hbm
    have hbT : Tps M' b.ts b.tl := Sl.frs hb5.1.2.1 b4 fr (fun i hi => (hb5.2.2 i hi).2)
    have hbP : Pts M' b.ps b.l := Sl.frs hb5.1.1 b4 fr (fun i hi => (hb5.2.1 i hi).2)
    have hb' : BdIn M' b' := by
      rcases hps with h | h
      · exact ⟨by rw [h, hl1 h]; exact hbP, by rw [hts, htl]; exact hbT, by rw [hl1 h]; exact hb5.1.2.2.1, by rw [htl]; exact hb5.1.2.2.2⟩
      · exact ⟨by rw [h, hl2 h]; exact .inl ⟨rfl, .inl rfl⟩, by rw [hts, htl]; exact hbT, by rw [hl2 h]; simp, by rw [htl]; exact hb5.1.2.2.2⟩
    exact tail3 C h10 h11 h12 (cb := M3.next) F M' f' (fr.get b4 b6 hcv) (clim_set b4 fr rows5 hb' ht) (Sl.frs lk5 b4 fr (fun i hi => s8 i hi)) (by rw [List.length_set]; omega) (by omega) q4 y15 y16 y18 y19
  have svcv : ∀ N, sameVal cv (.val cv N) = true := fun N => (slV_sl tc.sl).sv N
  have svlv : ∀ N, sameVal lv (.val lv N) = true := fun N => (slV_sl s7).sv N
  rw [J3_1_eq]
  simp +contextual (maxSteps := 5000000) only [fput_some, Nat.reduceEqDiff, if_false, if_true, x0, x1, x2, x3, x4, x5, x6, stepK_ok, onOpK_val, onOpK_call, q1, callK_some, exA0, exA1, r1, exB0, exB1, s1, b1, b2, fa35_0, l0, hcl, c14, hni, bin_rem (show (8 : Int) ≠ 0 by decide), bin_eql]
  cases h0 : (how.tmod 8 == 0) with
  | true =>
    have st := ob_store (P := prog) (n := 5) (i := 3) (t := 2) (x := .int .i64 (IntKind.i64.wrap (ambOf amb - 1))) b6 rfl sz2 (by omega) rfl rfl
    simp +contextual (maxSteps := 5000000) only [fput_some, Nat.reduceEqDiff, if_false, if_true, condK_true, stepK_ok, onOpK_val, fa35_2, fa35_3, l2, bin_sub, st]
    refine boxed _ cv lv _ _ _ rs ls' rfl keep (by omega) (by omega) _ ?_ ?_ ?_ ?_ <;> simp only [fput_some, Nat.reduceEqDiff, if_false, if_true]
  | false =>
    simp only [condK_false, stepK_ok, onOpK_val]
    cases h1 : (how.tmod 8 == 1) with
    | true =>
      have st := ob_store (P := prog) (n := 5) (i := 4) (t := 24) (x := .int .u64 (IntKind.u64.wrap (4294967297 - bud.tmod 2))) b6 rfl sz24 (by omega) rfl rfl
      simp +contextual (maxSteps := 5000000) only [fput_some, Nat.reduceEqDiff, if_false, if_true, x4, condK_true, stepK_ok, onOpK_val, fa35_4, bin_sub, bin_rem (show (2 : Int) ≠ 0 by decide), st]
      refine boxed _ cv lv _ _ _ rs ls' rfl keep (by omega) (by omega) _ ?_ ?_ ?_ ?_ <;> simp only [fput_some, Nat.reduceEqDiff, if_false, if_true]
    | false =>
      simp only [condK_false, stepK_ok, onOpK_val]
      cases h2 : (how.tmod 8 == 2) with
      | true =>
        have ca := h14 k 104 M5 (by decide) (by decide)
        obtain ⟨id, off, ep, lm, M6, i1, i2, i3, i4, i5, i6⟩ := tc.fieldStore (t1 := 3) (j := 3) (x := .int .i64 (IntKind.i64.wrap (modv k 104 - 2))) b4 un22 sz45 hbr (by omega) sz3 rfl rfl
        have i3' : evStore prog M5 3 (.ptr ⟨id, off + 3 + 0, ep, lm⟩) (.int .i64 (IntKind.i64.wrap (modv k 104 - 2))) = .val (.tuple []) M6 := i3
        simp +contextual (maxSteps := 5000000) only [fput_some, Nat.reduceEqDiff, if_false, if_true, x5, condK_true, stepK_ok, onOpK_val, fa35_0, l0, onOpK_call, ca, callK_some, svcv, Bool.and_true, onStillK_true, bin_sub, i1, fa45_2, fa39_0, i3']
        refine elem ⟨b.y, b.ps, b.l, (IntKind.i64.wrap (modv k 104 - 2), b.g.2.1, b.g.2.2), b.ts, b.tl⟩ M6 (.inl rfl) rfl (fun _ => rfl) (fun h => ?_) rfl i4 i5 i6 _ ?_ ?_ ?_ ?_
        · have hh := (rows5 b hbm).1.1
          have h' : b.ps = .nilSlice := h
          rw [h'] at hh
          rcases hh with ⟨e, _⟩ | ⟨_, _, _, e, _⟩
          · exact List.map_eq_nil_iff.mp e
          · cases e
        all_goals simp only [fput_some, Nat.reduceEqDiff, if_false, if_true]
      | false =>
        simp only [condK_false, stepK_ok, onOpK_val]
        cases h3 : (how.tmod 8 == 3) with
        | true =>
          obtain ⟨id, off, ep, lm, M6, i1, i2, i3, i4, i5, i6⟩ := tc.fieldStore (t1 := 42) (j := 2) (x := .nilSlice) b4 un22 sz45 hbr (by omega) sz42 rfl rfl
          simp +contextual (maxSteps := 5000000) only [fput_some, Nat.reduceEqDiff, if_false, if_true, x5, condK_true, stepK_ok, onOpK_val, fa35_0, l0, i1, fa45_1, i3]
          refine elem ⟨b.y, .nilSlice, [], b.g, b.ts, b.tl⟩ M6 (.inr rfl) rfl (fun h => ?_) (fun _ => rfl) rfl i4 i5 i6 _ ?_ ?_ ?_ ?_
          · have hh := (rows5 b hbm).1.1
            have h' : AVal.nilSlice = b.ps := h
            rw [← h'] at hh
            rcases hh with ⟨e, _⟩ | ⟨_, _, _, e, _⟩
            · exact (List.map_eq_nil_iff.mp e).symm
            · cases e
          all_goals simp only [fput_some, Nat.reduceEqDiff, if_false, if_true]
        | false =>
          simp only [condK_false, stepK_ok, onOpK_val]
          cases h4 : (how.tmod 8 == 4) with
          | true =>
            obtain ⟨id, off, ep, lm, M6, i1, i2, i3, i4, i5, i6⟩ := tc.fieldStore (t1 := 2) (j := 0) (x := .int .i64 (IntKind.i64.wrap (b.y.1 - IntKind.i64.wrap ((IntKind.u64.wrap k).tmod 3)))) b4 un22 sz45 hbr (by omega) sz2 rfl rfl
            have ll := i2.load (P := prog) (t := 2) ag2 0 (v := .int .i64 b.y.1) rfl
            have ll' : evLoad prog M5 2 (.ptr ⟨id, off + 0 + 0, ep, lm⟩) = .val (.int .i64 b.y.1) M5 := ll
            have i3' : evStore prog M5 2 (.ptr ⟨id, off + 0 + 0, ep, lm⟩) (.int .i64 (IntKind.i64.wrap (b.y.1 - IntKind.i64.wrap ((IntKind.u64.wrap k).tmod 3)))) = .val (.tuple []) M6 := i3
            simp +contextual (maxSteps := 5000000) only [fput_some, Nat.reduceEqDiff, if_false, if_true, x5, condK_true, stepK_ok, onOpK_val, fa35_0, l0, i1, fa45_0, fa41_0, ll', conv_int un3 un24, conv_int un24 un2, bin_rem (show (3 : Int) ≠ 0 by decide), bin_sub, i3', onStillK_true]
            refine elem ⟨(IntKind.i64.wrap (b.y.1 - IntKind.i64.wrap ((IntKind.u64.wrap k).tmod 3)), b.y.2), b.ps, b.l, b.g, b.ts, b.tl⟩ M6 (.inl rfl) rfl (fun _ => rfl) (fun h => ?_) rfl i4 i5 i6 _ ?_ ?_ ?_ ?_
            · have hh := (rows5 b hbm).1.1
              have h' : b.ps = .nilSlice := h
              rw [h'] at hh
              rcases hh with ⟨e, _⟩ | ⟨_, _, _, e, _⟩
              · exact List.map_eq_nil_iff.mp e
              · cases e
            all_goals simp only [fput_some, Nat.reduceEqDiff, if_false, if_true]
          | false =>
            simp only [condK_false, stepK_ok, onOpK_val]
            cases h5 : (how.tmod 8 == 5) with
            | true =>
              obtain ⟨z0, z1⟩ := modv_range k (n := 2) (by decide) (by decide)
              obtain ⟨nm, hnm⟩ := Int.eq_ofNat_of_zero_le z0
              have ca := h14 k 2 M5 (by decide) (by decide)
              have hll5 : ∀ N, Go.VE.builtin prog N .len #[23] [lv] = .val (.int .i64 (ls'.length : Int)) N := fun N => by have := lk5.len un23 N; simpa using this
              obtain ⟨m, hm, hmm⟩ : ∃ m : Nat, m ≤ ls'.length ∧ (if modv k 2 < (ls'.length : Int) then modv k 2 else (ls'.length : Int)) = (m : Int) := by
                split
                · exact ⟨nm, by omega, hnm⟩
                · exact ⟨ls'.length, Nat.le_refl _, rfl⟩
              obtain ⟨u, u1, u2, u3, u4⟩ := lks_take lk5 s10 hm
              have st1 := ob_store (P := prog) (n := 5) (i := 0) (t := 22) (x := .nilSlice) b6 rfl sz22 (by omega) rfl rfl
              have oA : (M5.set M3.next (.cells ([cv, lv, AVal.int .i64 (ambOf amb), .int .i64 (limOf amb lim), .int .u64 (bud.tmod 700)].set 0 .nilSlice) 0 0)).get M3.next = some (.cells ([cv, lv, AVal.int .i64 (ambOf amb), .int .i64 (limOf amb lim), .int .u64 (bud.tmod 700)].set 0 .nilSlice) 0 0) := by rw [Mem.get_set, if_pos rfl]
              have st2 := ob_store (P := prog) (n := 5) (i := 1) (t := 23) (x := u) oA rfl sz23 (by omega) u3.1 u3.2
              rw [Mem.set_set] at st2
              simp +contextual (maxSteps := 5000000) only [fput_some, Nat.reduceEqDiff, if_false, if_true, x5, condK_true, stepK_ok, onOpK_val, fa35_0, fa35_1, l1, hll5, onOpK_call, ca, callK_some, sv_int, svlv, Bool.and_true, onStillK_true, bmin2, hmm, u1, st1, st2]
              refine boxed _ .nilSlice u _ _ _ [] (ls'.take m) rfl (fun M' fr _ => ⟨⟨.inl ⟨rfl, .inl rfl⟩, fun b hb => by cases hb⟩, Sl.frs u2 b4 fr (fun i hi e => by have := lvlt i (u4 i hi); omega)⟩) (by simp) (by rw [List.length_take]; omega) _ ?_ ?_ ?_ ?_ <;> simp only [fput_some, Nat.reduceEqDiff, if_false, if_true]
            | false =>
              simp only [condK_false]
              refine tail3 C h10 h11 h12 (cb := M3.next) (cv := cv) (lv := lv) (rs := rs) (ls := ls') _ M5 b4 b6 hB5 lk5 (by omega) (by omega) q4 ?_ ?_ ?_ ?_ <;> simp only [fput_some, Nat.reduceEqDiff, if_false, if_true]
end Go.Proofs.Tryz.W
namespace Go.Proofs.Tryz.W
attribute [local congr] stepK_cg onOpK_cg callK_cg condK_cg onStillK_cg

noncomputable def fieldsOf (t : TypeId) : Array Field := match prog.underlying t with | some (.struct fs) => fs | _ => #[]
theorem us210 : prog.underlying 210 = some (.struct (fieldsOf 210)) := by kernel_rfl
theorem us45 : prog.underlying 45 = some (.struct (fieldsOf 45)) := by kernel_rfl
theorem us41 : prog.underlying 41 = some (.struct (fieldsOf 41)) := by kernel_rfl
theorem us39 : prog.underlying 39 = some (.struct (fieldsOf 39)) := by kernel_rfl
theorem us61 : prog.underlying 61 = some (.struct (fieldsOf 61)) := by kernel_rfl
theorem us205 : prog.underlying 205 = some (.struct (fieldsOf 205)) := by kernel_rfl
theorem fl210 : ((fieldsOf 210).toList.map fun f => (f.type, f.offset, prog.cellsOf f.type)) = [(3, 0, 1), (3, 1, 1), (2, 2, 1)] := by kernel_rfl
theorem fl45 : ((fieldsOf 45).toList.map fun f => (f.type, f.offset, prog.cellsOf f.type)) = [(41, 0, 2), (42, 2, 1), (39, 3, 3), (43, 6, 1)] := by kernel_rfl
theorem fl41 : ((fieldsOf 41).toList.map fun f => (f.type, f.offset, prog.cellsOf f.type)) = [(2, 0, 1), (2, 1, 1)] := by kernel_rfl
theorem fl39 : ((fieldsOf 39).toList.map fun f => (f.type, f.offset, prog.cellsOf f.type)) = [(3, 0, 1), (3, 1, 1), (3, 2, 1)] := by kernel_rfl
theorem fl61 : ((fieldsOf 61).toList.map fun f => (f.type, f.offset, prog.cellsOf f.type)) = [(24, 0, 1), (24, 1, 1), (24, 2, 1)] := by kernel_rfl
theorem fl205 : ((fieldsOf 205).toList.map fun f => (f.type, f.offset, prog.cellsOf f.type)) = [(3, 0, 1), (2, 1, 1), (2, 2, 1)] := by kernel_rfl
theorem ce210 : prog.cellsOf 210 = 3 := by kernel_rfl
theorem ce45 : prog.cellsOf 45 = 7 := by kernel_rfl
theorem ce41 : prog.cellsOf 41 = 2 := by kernel_rfl
theorem ce39 : prog.cellsOf 39 = 3 := by kernel_rfl
theorem ce61 : prog.cellsOf 61 = 3 := by kernel_rfl
theorem ce205 : prog.cellsOf 205 = 3 := by kernel_rfl

section
variable {H : Type} {M : Mem}
theorem len3 {l : List AVal} (h : l.length = 3) : ∃ a b c, l = [a, b, c] := by
  match l, h with
  | [a, b, c], _ => exact ⟨a, b, c, rfl⟩
theorem len2 {l : List AVal} (h : l.length = 2) : ∃ a b, l = [a, b] := by
  match l, h with
  | [a, b], _ => exact ⟨a, b, rfl⟩
theorem len7 {l : List AVal} (h : l.length = 7) : ∃ a b c d e f g, l = [a, b, c, d, e, f, g] := by
  match l, h with
  | [a, b, c, d, e, f, g], _ => exact ⟨a, b, c, d, e, f, g, rfl⟩

/-- Whole numbers of a kind. -/
def inK (k : IntKind) (n : Int) : Prop := (Lit.int k n).wf = true
def pt_ok (x : Pt) : Prop := inK .u64 x.1 ∧ inK .u64 x.2.1 ∧ inK .u64 x.2.2
theorem rd_lk {vs : List AVal} {d : DataW H} (h : Rd prog M 210 vs d) : ∃ y, vs = lkRow y ∧ True := by
  obtain ⟨hl, hf⟩ := rd_struct h us210 fl210
  obtain ⟨a, b, c, rfl⟩ := len3 (hl.trans ce210)
  obtain ⟨d1, h1⟩ := hf 3 0 1 (by decide)
  obtain ⟨d2, h2⟩ := hf 3 1 1 (by decide)
  obtain ⟨d3, h3⟩ := hf 2 2 1 (by decide)
  obtain ⟨n1, e1, _⟩ := rd_int h1 un3
  obtain ⟨n2, e2, _⟩ := rd_int h2 un3
  obtain ⟨n3, e3, _⟩ := rd_int h3 un2
  simp only [List.drop_zero, List.drop_succ_cons, List.take_succ_cons, List.take_zero, List.cons.injEq, and_true] at e1 e2 e3
  subst e1; subst e2; subst e3
  exact ⟨(n1, n2, n3), rfl, trivial⟩
theorem rd_tp {vs : List AVal} {d : DataW H} (h : Rd prog M 205 vs d) : ∃ y, vs = tpRow y ∧ True := by
  obtain ⟨hl, hf⟩ := rd_struct h us205 fl205
  obtain ⟨a, b, c, rfl⟩ := len3 (hl.trans ce205)
  obtain ⟨d1, h1⟩ := hf 3 0 1 (by decide)
  obtain ⟨d2, h2⟩ := hf 2 1 1 (by decide)
  obtain ⟨d3, h3⟩ := hf 2 2 1 (by decide)
  obtain ⟨n1, e1, _⟩ := rd_int h1 un3
  obtain ⟨n2, e2, _⟩ := rd_int h2 un2
  obtain ⟨n3, e3, _⟩ := rd_int h3 un2
  simp only [List.drop_zero, List.drop_succ_cons, List.take_succ_cons, List.take_zero, List.cons.injEq, and_true] at e1 e2 e3
  subst e1; subst e2; subst e3
  exact ⟨(n1, n2, n3), rfl, trivial⟩
theorem rd_pt {vs : List AVal} {d : DataW H} (h : Rd prog M 61 vs d) : ∃ y, vs = ptRow y ∧ pt_ok y := by
  obtain ⟨hl, hf⟩ := rd_struct h us61 fl61
  obtain ⟨a, b, c, rfl⟩ := len3 (hl.trans ce61)
  obtain ⟨d1, h1⟩ := hf 24 0 1 (by decide)
  obtain ⟨d2, h2⟩ := hf 24 1 1 (by decide)
  obtain ⟨d3, h3⟩ := hf 24 2 1 (by decide)
  obtain ⟨n1, e1, w1⟩ := rd_int h1 un24
  obtain ⟨n2, e2, w2⟩ := rd_int h2 un24
  obtain ⟨n3, e3, w3⟩ := rd_int h3 un24
  simp only [List.drop_zero, List.drop_succ_cons, List.take_succ_cons, List.take_zero, List.cons.injEq, and_true] at e1 e2 e3
  subst e1; subst e2; subst e3
  exact ⟨(n1, n2, n3), rfl, w1, w2, w3⟩
theorem rd_gp {vs : List AVal} {d : DataW H} (h : Rd prog M 39 vs d) : ∃ g, vs = gpRow g := by
  obtain ⟨hl, hf⟩ := rd_struct h us39 fl39
  obtain ⟨a, b, c, rfl⟩ := len3 (hl.trans ce39)
  obtain ⟨d1, h1⟩ := hf 3 0 1 (by decide)
  obtain ⟨d2, h2⟩ := hf 3 1 1 (by decide)
  obtain ⟨d3, h3⟩ := hf 3 2 1 (by decide)
  obtain ⟨n1, e1, _⟩ := rd_int h1 un3
  obtain ⟨n2, e2, _⟩ := rd_int h2 un3
  obtain ⟨n3, e3, _⟩ := rd_int h3 un3
  simp only [List.drop_zero, List.drop_succ_cons, List.take_succ_cons, List.take_zero, List.cons.injEq, and_true] at e1 e2 e3
  subst e1; subst e2; subst e3
  exact ⟨(n1, n2, n3), rfl⟩
theorem rd_hr {vs : List AVal} {d : DataW H} (h : Rd prog M 41 vs d) : ∃ y, vs = hrRow y := by
  obtain ⟨hl, hf⟩ := rd_struct h us41 fl41
  obtain ⟨a, b, rfl⟩ := len2 (hl.trans ce41)
  obtain ⟨d1, h1⟩ := hf 2 0 1 (by decide)
  obtain ⟨d2, h2⟩ := hf 2 1 1 (by decide)
  obtain ⟨n1, e1, _⟩ := rd_int h1 un2
  obtain ⟨n2, e2, _⟩ := rd_int h2 un2
  simp only [List.drop_zero, List.drop_succ_cons, List.take_succ_cons, List.take_zero, List.cons.injEq, and_true] at e1 e2
  subst e1; subst e2
  exact ⟨(n1, n2), rfl⟩
theorem rd_lks {t : TypeId} {vs : List AVal} {d : DataW H} (h : Rd prog M 23 vs d) : ∃ w ls, vs = [w] ∧ Lks M w ls ∧ ls.length ≤ maxLen := by
  obtain ⟨v, rows, rfl, hs, hl, hr⟩ := rd_slice h un23 ce210
  obtain ⟨ls, rfl, _⟩ := rows_of (row := lkRow) (Q := fun _ => True) (fun r hr' => (hr r hr').elim fun d hd => rd_lk hd)
  exact ⟨v, ls, rfl, hs, by simpa using hl⟩
/-- What is asked of a domain of data. -/
def BdOk (M : Mem) (b : Bd) : Prop := Pts M b.ps b.l ∧ Tps M b.ts b.tl ∧ ∀ x ∈ b.l, pt_ok x
theorem rd_bd {vs : List AVal} {d : DataW H} (h : Rd prog M 45 vs d) : ∃ b, vs = Bd.row b ∧ BdOk M b := by
  obtain ⟨hl, hf⟩ := rd_struct h us45 fl45
  obtain ⟨a1, a2, a3, a4, a5, a6, a7, rfl⟩ := len7 (hl.trans ce45)
  obtain ⟨d1, h1⟩ := hf 41 0 2 (by decide)
  obtain ⟨d2, h2⟩ := hf 42 2 1 (by decide)
  obtain ⟨d3, h3⟩ := hf 39 3 3 (by decide)
  obtain ⟨d4, h4⟩ := hf 43 6 1 (by decide)
  obtain ⟨y, ey⟩ := rd_hr h1
  obtain ⟨g, eg⟩ := rd_gp h3
  obtain ⟨ps, r1, e2, s1, _, q1⟩ := rd_slice h2 un42 ce61
  obtain ⟨ts, r2, e4, s2, _, q2⟩ := rd_slice h4 un43 ce205
  obtain ⟨l, rfl, hpt⟩ := rows_of (row := ptRow) (Q := pt_ok) (fun r hr' => (q1 r hr').elim fun d hd => rd_pt hd)
  obtain ⟨tl, rfl, _⟩ := rows_of (row := tpRow) (Q := fun _ => True) (fun r hr' => (q2 r hr').elim fun d hd => rd_tp hd)
  simp only [hrRow, gpRow, List.drop_zero, List.drop_succ_cons, List.take_succ_cons, List.take_zero, List.cons.injEq, and_true] at ey eg e2 e4
  obtain ⟨rfl, rfl⟩ := ey
  obtain ⟨rfl, rfl, rfl⟩ := eg
  subst e2; subst e4
  exact ⟨⟨y, a3, l, g, a7, tl⟩, rfl, s1, s2, hpt⟩
theorem rd_bds {vs : List AVal} {d : DataW H} (h : Rd prog M 22 vs d) : ∃ (v : AVal) (bs : List Bd), vs = [v] ∧ Sl M v 7 (bs.map Bd.row) ∧ (∀ b ∈ bs, BdOk M b) ∧ bs.length ≤ maxLen := by
  obtain ⟨v, rows, rfl, hs, hl, hr⟩ := rd_slice h un22 ce45
  obtain ⟨bs, rfl, hb⟩ := rows_of (row := Bd.row) (Q := BdOk M) (fun r hr' => (hr r hr').elim fun d hd => rd_bd hd)
  exact ⟨v, bs, rfl, hs, hb, by simpa using hl⟩
end

theorem not_big {bs : List Bd} (h : bigs bs = false) : bs.length ≤ 10 ∧ ∀ b ∈ bs, b.l.length ≤ 20 ∧ b.tl.length ≤ 20 := by
  simp only [bigs, Bool.or_eq_false_iff, decide_eq_false_iff_not, List.any_eq_false, bigB, Bool.or_eq_true, decide_eq_true_eq, not_or] at h
  exact ⟨by omega, fun b hb => by have := h.1 b hb; omega⟩

/-- All that the laws on thermal control call. -/
structure AllK (C : Caller) : Prop where
  k9 : K9 C
  k10 : K10 C
  k11 : K11 C
  k12 : K12 C
  k13 : K13 C
  k14 : K14 C
theorem allK {L : Lib} (h10 : K10 (callW prog L)) (hL : ∀ f, f ∈ [9, 11, 12, 13, 14, 20, 38, 39, 40, 41, 42, 43, 44, 45, 46, 47, 52, 78, 79, 80, 81, 82, 83, 84, 85, 93, 94, 122, 123, 135, 136, 165, 166, 167, 203] → L f = none) : AllK (callW prog L) := by
  have m : ∀ f, f ∈ [9, 11, 12, 13, 14, 20, 38, 39, 40, 41, 42, 43, 44, 45, 46, 47, 52, 78, 79, 80, 81, 82, 83, 84, 85, 93, 94, 122, 123, 135, 136, 165, 166, 167, 203] → L f = none := hL
  have c122 := k122 (L := L) (m 122 (by decide))
  have c166 := k166 (L := L) (m 166 (by decide)) (m 167 (by decide))
  have c203 := k203 (L := L) (m 203 (by decide)) c166
  have c165 := k165 (L := L) (m 165 (by decide)) c203
  have c123 := k123 (L := L) (m 123 (by decide)) c122 c165
  have c80 := k80 (L := L) (m 80 (by decide)) c122 c123
  have c81 := k81 (L := L) (m 81 (by decide))
  have c82 := k82 (L := L) (m 82 (by decide))
  have c39 := k39 (L := L) (m 39 (by decide)) c80 c81 c82
  have c39s := k39s (L := L) (m 39 (by decide)) c80 c81 c82
  have c20 := k20 (L := L) (m 20 (by decide)) c39
  have c78 := k78 (L := L) (m 78 (by decide))
  have c79 := k79 (L := L) (m 79 (by decide))
  have c135 := k135 (L := L) (m 135 (by decide))
  have c136 := k136 (L := L) (m 136 (by decide))
  have c93 := k93 (L := L) (m 93 (by decide)) c135 c78
  have c94 := k94 (L := L) (m 94 (by decide)) c136 c79
  have c52 := k52 (L := L) (m 52 (by decide)) c93 c94
  have c38 := k38 (L := L) (m 38 (by decide)) c20 c78 c79 c52
  have c11 := k11 (L := L) (m 11 (by decide)) c38 c39s
  have c85 := k85 (L := L) (m 85 (by decide))
  have c43 := k43 (L := L) (m 43 (by decide)) c85
  have c43p := k43p (L := L) (m 43 (by decide)) c85
  have c42 := k42 (L := L) (m 42 (by decide)) c43
  have c83 := k83 (L := L) (m 83 (by decide))
  have c84 := k84 (L := L) (m 84 (by decide))
  have c40 := k40 (L := L) (m 40 (by decide)) c83
  have c41 := k41 (L := L) (m 41 (by decide)) c84
  have c44 := k44 (L := L) (m 44 (by decide)) c40 c41
  have c12 := k12 (L := L) (m 12 (by decide)) c40 c41 c42 c43p c44
  have c14 := k14 (L := L) (m 14 (by decide))
  have c45 := k45 (L := L) (m 45 (by decide)) c14
  have c46 := k46 (L := L) (m 46 (by decide))
  have c47 := k47 (L := L) (m 47 (by decide)) c14
  have c13 := k13 (L := L) (m 13 (by decide)) c14 c45 c46 c47
  have c9 := k9 (L := L) (m 9 (by decide))
  exact ⟨c9, h10, c11, c12, c13, c14⟩


set_option maxRecDepth 20000 in
theorem law3 {H : Type} (C : Caller) (hC : AllK C) {M : Mem} {xs : List AVal} {ds : List (DataW H)} (hf : M.Fine) (h : RdAll prog M [22, 23, 2, 2, 24, 3, 5] xs ds) : ∃ M', J3_0 C (argsF xs) M = some (.bool true, M') := by
  obtain ⟨a0, xs, d0, ds, rfl, rfl, r0, h⟩ := rdAll_cons h
  obtain ⟨a1, xs, d1, ds, rfl, rfl, r1, h⟩ := rdAll_cons h
  obtain ⟨a2, xs, d2, ds, rfl, rfl, r2, h⟩ := rdAll_cons h
  obtain ⟨a3, xs, d3, ds, rfl, rfl, r3, h⟩ := rdAll_cons h
  obtain ⟨a4, xs, d4, ds, rfl, rfl, r4, h⟩ := rdAll_cons h
  obtain ⟨a5, xs, d5, ds, rfl, rfl, r5, h⟩ := rdAll_cons h
  obtain ⟨a6, xs, d6, ds, rfl, rfl, r6, h⟩ := rdAll_cons h
  obtain rfl := rdAll_nil h
  have q0 := rdV_one (P := prog) (M := M) (t := 22) (a := a0) (d := d0) ag22 r0
  have q1 := rdV_one (P := prog) (M := M) (t := 23) (a := a1) (d := d1) ag23 r1
  have q2 := rdV_one (P := prog) (M := M) (t := 2) (a := a2) (d := d2) ag2 r2
  have q3 := rdV_one (P := prog) (M := M) (t := 2) (a := a3) (d := d3) ag2 r3
  have q4 := rdV_one (P := prog) (M := M) (t := 24) (a := a4) (d := d4) ag24 r4
  have q5 := rdV_one (P := prog) (M := M) (t := 3) (a := a5) (d := d5) ag3 r5
  have q6 := rdV_one (P := prog) (M := M) (t := 5) (a := a6) (d := d6) ag5 r6
  obtain ⟨v, bs, e0, hS, hB, hbl⟩ := rd_bds q0
  obtain ⟨w, ls, e1, hQ, hll⟩ := rd_lks (t := 23) q1
  obtain ⟨amb, e2, _⟩ := rd_int q2 un2
  obtain ⟨lim, e3, _⟩ := rd_int q3 un2
  obtain ⟨bud, e4, _⟩ := rd_int q4 un24
  obtain ⟨k, e5, _⟩ := rd_int q5 un3
  obtain ⟨how, e6, _⟩ := rd_int q6 un5
  simp only [List.cons.injEq, and_true] at e0 e1 e2 e3 e4 e5 e6
  subst e0; subst e1; subst e2; subst e3; subst e4; subst e5; subst e6
  generalize hA : argsF [a0, a1, .int .i64 amb, .int .i64 lim, .int .u64 bud, .int .i64 k, .int .u8 how] = A
  have x0 : A 0 = a0 := by rw [← hA]; rfl
  have x1 : A 1 = a1 := by rw [← hA]; rfl
  have x2 : A 2 = .int .i64 amb := by rw [← hA]; rfl
  have x3 : A 3 = .int .i64 lim := by rw [← hA]; rfl
  have x4 : A 4 = .int .u64 bud := by rw [← hA]; rfl
  have x5 : A 5 = .int .i64 k := by rw [← hA]; rfl
  have x6 : A 6 = .int .u8 how := by rw [← hA]; rfl
  have hlen : ∀ N, Go.VE.builtin prog N .len #[23] [a1] = .val (.int .i64 (ls.length : Int)) N := fun N => by have := hQ.len un23 N; simpa using this
  have c9 := hC.k9 a0 bs M ⟨hS, fun b hb => ⟨(hB b hb).1, (hB b hb).2.1⟩⟩ (by have : maxLen = 9223372036854775807 := rfl; omega)
  rw [J3_0_eq]
  simp +contextual only [fput_some, Nat.reduceEqDiff, if_false, if_true, x0, x1, stepK_ok, onOpK_val, onOpK_call, c9, callK_some, hlen, bin_gtr, sel_t, sel_f, stepK_no, wantF, wantT, wantS, wantFc, wantTc, step_or, step_and, stepK_val, pick_b, sel_or, sel_and]
  cases hb : (bigs bs || decide ((ls.length : Int) > 20)) with
  | true =>
    simp only [condK_true, stepK_ok, onOpK_val, onOpK_call, hC.k10 M, callK_some]
    exact ⟨M, rfl⟩
  | false =>
    simp only [condK_false]
    simp only [Bool.or_eq_false_iff, decide_eq_false_iff_not] at hb
    obtain ⟨n1, n2⟩ := not_big hb.1
    have hP : Bds M a0 bs := ⟨hS, fun b hb' => ⟨(hB b hb').1, (hB b hb').2.1, by have := (n2 b hb').1; omega, by have := (n2 b hb').2; omega⟩⟩
    refine switch3 C hC.k10 hC.k11 hC.k12 hC.k13 hC.k14 (amb := amb) (lim := lim) (bud := bud) (k := k) (how := how) hf hP hQ n1 (by omega) _ ?_ ?_ ?_ ?_ ?_ ?_ ?_ <;> simp only [fput_some, Nat.reduceEqDiff, if_false, x0, x1, x2, x3, x4, x5, x6]
end Go.Proofs.Tryz.W
