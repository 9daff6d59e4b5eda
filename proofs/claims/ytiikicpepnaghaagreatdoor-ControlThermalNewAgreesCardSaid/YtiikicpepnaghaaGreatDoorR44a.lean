/-
  ControlThermalNewAgrees: for all arguments the program's NewThermal and the reference's accept the same, also at valid arguments of which one element is changed, and the sanity check answers true: the law returns true and its arguments read as they did. Conditions: the row's own (its listed library tables hold what the program's text lays); the card ties them.
-/
import Derived.Test.YtiikicpepnaghaaGreatDoorM44g
import Derived.Test.YtiikicpepnaghaaGreatDoorJ44c
import Derived.Test.YtiikicpepnaghaaGreatDoorJ44d
import Derived.Test.YtiikicpepnaghaaGreatDoorB44
import Derived.Test.YtiikicpepnaghaaGreatDoorVeRow
import Derived.Test.YtiikicpepnaghaaGreatDoorTie
import Derived.Test.YtiikicpepnaghaaGreatDoorCards
import Derived.Lay
import Derived.SevenTiedAt
open Go Go.VE Go.ChangeShapes Go.WideShapes Go.ChangeAt Go.RowKit Go.Lib Go.ChangeMaps
namespace Go.Proofs.YtiikicpepnaghaaGreatDoor
open Go.Proofs.Tryz Go.Proofs.Tryz.W

theorem allB : AllK (callW Tryz.prog LB) := allK (fun M => by rw [callW_lib (L := LB) (f := 10) LB_10]; rfl) (fun f hf => LB_none f (by rintro rfl; revert hf; decide) (by rintro rfl; revert hf; decide))

set_option maxRecDepth 100000 in
theorem lifted (os : Os) (started : os.Started) (H : Type) (enc : TypeId × Value → H) :
    ReturnsInHanded {} Tryz.checked os 3 .any (fun w args => (Rows.controlThermalNewAgreesSpec.pre enc Tryz.prog Tryz.f3 [] false w args ∧ laidMetH Tryz.prog Rows.controlThermalNewAgreesRow.laid w) ∧ sizedMet enc Tryz.prog Tryz.f3 (OpenSpec.ofChange Rows.controlThermalNewAgreesSpec) false w args)
      (Rows.controlThermalNewAgreesSpec.post enc Tryz.prog Tryz.f3 false true false false) := by
  refine returnsInHanded_of_change_and (C := Tryz.checked) (X := fun w _ => laidMetH Tryz.prog Rows.controlThermalNewAgreesRow.laid w) (fun _ _ _ hh h => h.of_heap hh) own started (by kernel_rfl) Tryz.func3
    (ChangeSpec.witness_shaped (enc := enc) (C := Tryz.checked) (os := os) (X := fun w _ => laidMetH Tryz.prog Rows.controlThermalNewAgreesRow.laid w) false (World.laidAll Tryz.prog os Rows.controlThermalNewAgreesRow.laid) #[.slice none 0 0, .slice none 0 0, .int .i64 0, .int .i64 0, .int .u64 0, .int .i64 0, .int .u8 0] 8 (World.laidAll_os _ _ _)
      (World.shaped_of_ZipB (by kernel_rfl) (by kernel_rfl)) (by kernel_rfl) (by kernel_rfl) (by kernel_rfl)
      (by rw [MakeChecks.laidMetH_plain _ _ _ (by kernel_rfl)]; exact laidMet_laidAll _ (by kernel_rfl) (by kernel_rfl))) ?_
  intro W base args ds gs before hval0 hW _ _ hL _
  have hval : ∀ (j : Nat) t v, Tryz.f3.params[j]? = some t → args[j]? = some v → Value.okWide Tryz.prog W .any base t v := hval0
  have hW' := hW
  obtain ⟨p, q, hA0, hV, rfl, _, _⟩ := hW
  have hA : DataW.TrodAll enc Tryz.prog W 0 (fun _ => true) true Tryz.f3.params.toList args.toList ds p := hA0
  rw [Tryz.params3] at hA
  obtain ⟨rfl, rfl⟩ := trodVars_none hV
  have hc := law_calls (P := Tryz.prog) (enc := enc) (W := W) (callW_ok prog_ok LB_ok) (f := 3) (n := 8) (ts := [22, 23, 2, 2, 24, 3, 5]) (args := args.toList) (ds := ds) (ps := p) (r := .any) (base := base) (by kernel_rfl)
    (fun j t v ht hv => hval j t v (by rw [Tryz.params3]; simpa using ht) (by simpa using hv)) hA
    (fun M xs hf hrd => by
      obtain ⟨M', h⟩ := law3 (callW Tryz.prog LB) allB hf hrd
      exact ⟨M', by rw [run3 (L := LB) (LB_none 3 (by decide) (by decide))]; exact h⟩)
  rw [Array.toArray_toList] at hc
  refine hc.mono fun e W' ⟨he, hb⟩ => ?_
  subst he
  have hds : ∃ d1 d2 d3 d4 d5 d6 d7, ds = [d1, d2, d3, d4, d5, d6, d7] := by
    obtain ⟨v1, vs1, d1, ds1, _, _, e1, rfl, _, _, h1⟩ := trodAll_cons hA
    obtain ⟨v2, vs2, d2, ds2, _, _, e2, rfl, _, _, h2⟩ := trodAll_cons h1
    obtain ⟨v3, vs3, d3, ds3, _, _, e3, rfl, _, _, h3⟩ := trodAll_cons h2
    obtain ⟨v4, vs4, d4, ds4, _, _, e4, rfl, _, _, h4⟩ := trodAll_cons h3
    obtain ⟨v5, vs5, d5, ds5, _, _, e5, rfl, _, _, h5⟩ := trodAll_cons h4
    obtain ⟨v6, vs6, d6, ds6, _, _, e6, rfl, _, _, h6⟩ := trodAll_cons h5
    obtain ⟨v7, vs7, d7, ds7, _, _, e7, rfl, _, _, h7⟩ := trodAll_cons h6
    obtain ⟨_, rfl, _⟩ := trodAll_nil h7
    exact ⟨_, _, _, _, _, _, _, rfl⟩
  obtain ⟨d1, d2, d3, d4, d5, d6, d7, rfl⟩ := hds
  exact ⟨_, rfl, law_post hW' rfl rfl rfl Tryz.underlying4 laidOut (by kernel_rfl) hb⟩

theorem controlThermalNewAgrees_row : Rows.ControlThermalNewAgreesSaid :=
  OpenClaim.holds_of_wide 3 Tryz.f3 rfl rfl rfl rfl rfl rfl rfl ⟨rfl, rfl, rfl, rfl, rfl⟩ rfl rfl rfl rfl rfl (by kernel_rfl) Tryz.func3 closed
    (of_decide_eq_true (by kernel_rfl)) (by unfold Func.isWrapper; first | (rw [if_pos (by decide +kernel)]; kernel_rfl) | (rw [if_neg (by decide +kernel)]; exact ⟨rfl, rfl⟩))
    (fun os started H enc _ => lifted os started H enc)

theorem controlThermalNewAgrees_card : Rows.ControlThermalNewAgreesCardSaid :=
  Claim7.holds_tied_plain_at .later [] [.data, .data, .data, .data, .sentinel, .sentinel, .pinned] true (true, "a875904cef57d5dac4ccc875eac34428d8b6284147a51f9a164dbff9a5280331") true controlThermalNewAgrees_row (fun _ h => by cases h) (by kernel_rfl) (fun _ h => by cases h) controlThermalNewAgrees_row_tie rfl ⟨rfl, rfl⟩ (by kernel_rfl) rfl
    (fun f fn hf hfn => by
      obtain rfl : f = 3 := Option.some.inj (fNamed.symm.trans hf) |>.symm
      obtain rfl : fn = Tryz.f3 := (Option.some.inj (Tryz.func3.symm.trans hfn)).symm
      exact ⟨looks, fun j t ht => by
        rw [Tryz.params3] at ht
        have hm : t ∈ [22, 23, 2, 2, 24, 3, 5] := by simpa using Array.mem_of_getElem? ht
        have hall : ([22, 23, 2, 2, 24, 3, 5].all fun u => !Tryz.prog.wantsStandIn u) = true := by kernel_rfl
        exact (show Tryz.prog.wantsStandIn t = false by simpa using List.all_eq_true.1 hall t hm)⟩)
    goes
#print axioms controlThermalNewAgrees_card
end Go.Proofs.YtiikicpepnaghaaGreatDoor
