/-
  LowerEffects: for every instruction the program's Effect and the reference's Effect return the same three results, and the sanity check answers true: the law returns true and its argument reads as it did. Conditions: the row's own (its listed library tables hold what the program's text lays); the card ties them.
-/
import Derived.Test.YtmoidmaihlmdpaaGreatDoorLeLaw
import Derived.Test.YtmoidmaihlmdpaaGreatDoorT7
import Derived.Test.YtmoidmaihlmdpaaGreatDoorP1
import Derived.Test.YtmoidmaihlmdpaaGreatDoorVeRow
import Derived.Test.YtmoidmaihlmdpaaGreatDoorTie
import Derived.Test.YtmoidmaihlmdpaaGreatDoorCards
import Derived.Lay
import Derived.SevenTiedAt
open Go Go.VE Go.ChangeShapes Go.WideShapes Go.ChangeAt Go.RowKit Go.Lib Go.ChangeMaps
namespace Go.Proofs.YtmoidmaihlmdpaaGreatDoor
open Go.Proofs.Tryz Go.Proofs.Tryz.W

noncomputable def L0 : Lib := Lib.none
noncomputable def L1 : Lib := ((L0.add 14 (gnd Tryz.prog L0 14)).add 15 (gnd Tryz.prog L0 15)).add 7 yes

theorem L0_ok : LibOk Tryz.prog L0 := libOk_none
theorem L1_ok : LibOk Tryz.prog L1 :=
  libOk_add (libOk_add (libOk_add L0_ok (gnd_entry prog_ok L0_ok (fn := Tryz.f14) (by kernel_rfl) (by kernel_rfl) (of_decide_eq_true (by kernel_rfl))))
    (gnd_entry prog_ok L0_ok (fn := Tryz.f15) (by kernel_rfl) (by kernel_rfl) (of_decide_eq_true (by kernel_rfl)))) (yes_entry prog_ok L0_ok awake14)

theorem eff_calls (op : Int) (v : Nat) (s : List UInt8) : ∃ a b c, ∀ M, callW Tryz.prog L1 14 [I op (.ofNat v) s] M = some (T a b c, M) ∧ callW Tryz.prog L1 15 [I op (.ofNat v) s] M = some (T a b c, M) := by
  obtain ⟨a, b, c, h1, h2⟩ := ef_any (callW Tryz.prog L0) s op v
  refine ⟨a, b, c, fun M => ?_⟩
  have e1 : ∃ M1, callW Tryz.prog L0 14 [I op (.ofNat v) s] .empty = some (T a b c, M1) := by
    rw [run14 (L := L0) rfl]
    cases h : J14_0 (callW Tryz.prog L0) (argsF [I op (.ofNat v) s]) .empty with
    | none => rw [h] at h1; cases h1
    | some r => rw [h] at h1; obtain ⟨x, M1⟩ := r; cases h1; exact ⟨M1, rfl⟩
  have e2 : ∃ M1, callW Tryz.prog L0 15 [I op (.ofNat v) s] .empty = some (T a b c, M1) := by
    rw [run15 (L := L0) rfl]
    cases h : J15_0 (callW Tryz.prog L0) (argsF [I op (.ofNat v) s]) .empty with
    | none => rw [h] at h2; cases h2
    | some r => rw [h] at h2; obtain ⟨x, M1⟩ := r; cases h2; exact ⟨M1, rfl⟩
  obtain ⟨M1, e1⟩ := e1
  obtain ⟨M2, e2⟩ := e2
  exact ⟨by rw [callW_lib (L := L1) (f := 14) rfl]; exact gnd_is rfl rfl e1 M, by rw [callW_lib (L := L1) (f := 15) rfl]; exact gnd_is rfl rfl e2 M⟩

theorem mod_calls (op : Int) (M : Mem) : ∃ r : Int, callW Tryz.prog L1 9 [.int .i64 op, .int .i64 37] M = some (.int .i64 r, M) := by
  rw [run9 (L := L1) rfl]
  exact ⟨IntKind.i64.wrap ((IntKind.u64.wrap op).tmod (IntKind.u64.wrap 37)), by kernel_rfl⟩

theorem law_calls (op : Int) (v : Nat) (s : ByteArray) (W : World) : Calls Tryz.prog 5 #[.agg #[.int .i64 op, .int .u64 v, .string s]] W fun e W' => e = .returned (.bool true) ∧ Below W.heap.size W W' := by
  obtain ⟨M', h⟩ := law (C := callW Tryz.prog L1) eff_calls mod_calls (fun M => by rw [callW_lib (L := L1) (f := 7) rfl]; rfl) op v s.data.toList .empty
  rw [← run5 (L := L1) rfl] at h
  have hc := (callW_ok prog_ok L1_ok 5 _ _ _ _ h).2 (fun _ _ => none) W [.agg #[.int .i64 op, .int .u64 v, .string s]] (memRel_empty W) ?_
  · refine hc.mono ?_
    rintro e W' ⟨m', c, rfl, hv, _, hf⟩
    rw [hv.bool_inv]
    exact ⟨rfl, below_of_fr hf⟩
  · refine ⟨rfl, fun i x c hx hc => ?_⟩
    match i, hx, hc with
    | 0, hx, hc =>
      cases hx; cases hc
      refine .agg _ _ rfl (fun i x c hx hc => ?_) (fun i c hc => ?_)
      · match i, hx, hc with
        | 0, hx, hc => cases hx; cases hc; exact .int _ _
        | 1, hx, hc => cases hx; cases hc; exact .int _ _
        | 2, hx, hc => cases hx; cases hc; exact .str _
      · match i, hc with
        | 0, hc => cases hc; rfl
        | 1, hc => cases hc; rfl
        | 2, hc => cases hc; rfl
    | i + 1, hx, _ => cases hx

theorem own : ownKnob Tryz.prog.godebug = none := by kernel_rfl
theorem laidOut : laidOutB Tryz.prog = true := by kernel_rfl

set_option maxRecDepth 100000 in
theorem lifted (os : Os) (started : os.Started) (H : Type) (enc : TypeId × Value → H) :
    ReturnsInHanded {} Tryz.checked os 5 .any (fun w args => (Rows.lowerEffectsSpec.pre enc Tryz.prog Tryz.f5 [] false w args ∧ laidMetH Tryz.prog Rows.lowerEffectsRow.laid w) ∧ sizedMet enc Tryz.prog Tryz.f5 (OpenSpec.ofChange Rows.lowerEffectsSpec) false w args)
      (Rows.lowerEffectsSpec.post enc Tryz.prog Tryz.f5 false true false false) := by
  refine returnsInHanded_of_change_and (C := Tryz.checked) (X := fun w _ => laidMetH Tryz.prog Rows.lowerEffectsRow.laid w) (fun _ _ _ hh h => h.of_heap hh) own started (by kernel_rfl) Tryz.func5
    (ChangeSpec.witness_shaped (enc := enc) (C := Tryz.checked) (os := os) (X := fun w _ => laidMetH Tryz.prog Rows.lowerEffectsRow.laid w) false (World.laidAll Tryz.prog os Rows.lowerEffectsRow.laid) #[.agg #[.int .i64 0, .int .u64 0, .string ⟨#[]⟩]] 8 (World.laidAll_os _ _ _)
      (World.shaped_of_ZipB (by kernel_rfl) (by kernel_rfl)) (by kernel_rfl) (by kernel_rfl) (by kernel_rfl)
      (by rw [MakeChecks.laidMetH_plain _ _ _ (by kernel_rfl)]; exact laidMet_laidAll _ (by kernel_rfl) (by kernel_rfl))) ?_
  intro W base args ds gs before hval0 hW _ _ hL _
  have hval : ∀ (j : Nat) t v, Tryz.f5.params[j]? = some t → args[j]? = some v → Value.okWide Tryz.prog W .any base t v := hval0
  have hW' := hW
  obtain ⟨p, q, hA0, hV, rfl, _, _⟩ := hW
  have hA : DataW.TrodAll enc Tryz.prog W 0 (fun _ => true) true Tryz.f5.params.toList args.toList ds p := hA0
  rw [Tryz.params5] at hA hval
  obtain ⟨v0, d0, rfl, rfl, h0⟩ := trodAll_one hA
  obtain ⟨rfl, rfl⟩ := trodVars_none hV
  obtain ⟨c0, c1, c2, y0, y1, y2, n, rfl, rfl, rfl, g0, g1, g2⟩ := Go.Joins.open_agg3 Tryz.underlying40 (by kernel_rfl) (by kernel_rfl) (hval 0 40 v0 rfl rfl) h0
  obtain ⟨z0, e0, k0, w0⟩ := DataW.trod_int Tryz.underlying3 g0
  obtain ⟨z1, e1, k1, w1⟩ := DataW.trod_int Tryz.underlying29 g1
  obtain ⟨z2, e2, k2, w2⟩ := DataW.trod_string (P := Tryz.prog) (by kernel_rfl) g2
  simp only [List.cons.injEq, and_true] at e0 e1 e2
  subst e0; subst e1; subst e2
  have hz : 0 ≤ z1 := by simp [Lit.wf, IntKind.min, IntKind.max, IntKind.signed, IntKind.bits] at w1; omega
  obtain ⟨v, rfl⟩ := Int.eq_ofNat_of_zero_le hz
  refine (law_calls z0 v z2 W).mono fun e W' ⟨he, hb⟩ => ?_
  subst he
  exact ⟨_, rfl, law_post hW' rfl rfl rfl Tryz.underlying4 laidOut (by kernel_rfl) hb⟩

theorem lowerEffects_row : Rows.LowerEffectsSaid :=
  OpenClaim.holds_of_wide 5 Tryz.f5 rfl rfl rfl rfl rfl rfl rfl ⟨rfl, rfl, rfl, rfl, rfl⟩ rfl rfl rfl rfl rfl (by kernel_rfl) Tryz.func5 (by kernel_rfl)
    (of_decide_eq_true (by kernel_rfl)) (by unfold Func.isWrapper; first | (rw [if_pos (by decide +kernel)]; kernel_rfl) | (rw [if_neg (by decide +kernel)]; exact ⟨rfl, rfl⟩))
    (fun os started H enc _ => lifted os started H enc)

theorem lowerEffects_card : Rows.LowerEffectsCardSaid :=
  Claim7.holds_tied_plain_at .later [] [.data, .pinned] true (true, "243892b285f9acb236f7bca336c9d9198fbb9dd687300925fa391b11f427df69") false lowerEffects_row (fun _ h => by cases h) (by kernel_rfl) (fun _ h => by cases h) lowerEffects_row_tie rfl ⟨rfl, rfl⟩ (by kernel_rfl) rfl
    (fun f fn hf hfn => by
      obtain rfl : f = 5 := Option.some.inj ((show Tryz.prog.funcNamed "platformfw/platformfwlaw14.LowerEffects" = some 5 by kernel_rfl).symm.trans hf) |>.symm
      obtain rfl : fn = Tryz.f5 := (Option.some.inj (Tryz.func5.symm.trans hfn)).symm
      exact ⟨by kernel_rfl, fun j t ht => by
        rw [Tryz.params5] at ht
        have hm : t ∈ [40] := by simpa using Array.mem_of_getElem? ht
        have hall : ([40].all fun u => !Tryz.prog.wantsStandIn u) = true := by kernel_rfl
        exact (show Tryz.prog.wantsStandIn t = false by simpa using List.all_eq_true.1 hall t hm)⟩)
    (by kernel_rfl)
#print axioms lowerEffects_card
end Go.Proofs.YtmoidmaihlmdpaaGreatDoor
