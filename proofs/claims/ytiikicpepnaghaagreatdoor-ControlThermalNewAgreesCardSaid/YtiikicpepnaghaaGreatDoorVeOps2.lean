/-
  The abstract evaluator: slicing, conversions, what reads memory.
-/
import Derived.Test.YtiikicpepnaghaaGreatDoorVeOps
namespace Go.VE

section
variable {P : Program} {m : Plc} {w : World} {ρ : Operand → Value} {e : Env} {M M' : Mem} {o : Oper} {v : AVal}

/-! Slicing -/

theorem sliceBound_run {j y : Nat} (k : IntKind) (code : BoundsCode) (h : j ≤ y) (w : World) : (Instr.sliceBound (.int k (j : Int)) y code).run P w = .ok j w := by
  have h1 : (0 : Int) ≤ (j : Int) ∧ (j : Int) ≤ (y : Int) := ⟨by omega, by omega⟩
  simp only [Instr.sliceBound, Go.asIntOf, Sem.run_bind, Sem.run_pure, Result.andThen_ok, if_pos h1, Int.toNat_natCast]

/-- An optional bound and what stands for it. -/
def OptRel (m : Plc) : Option AVal → Option Value → Prop
  | none, none => True
  | some v, some c => ValRel m v c
  | _, _ => False

theorem bound_inv {hi d j : Nat} {x : Option AVal} (h : bound hi d x = some j) {c : Option Value} (hc : OptRel m x c) :
    (x = none ∧ c = none ∧ j = d) ∨ ∃ k, c = some (.int k (j : Int)) ∧ j ≤ hi := by
  cases x with
  | none =>
    cases c with
    | none => cases h; exact .inl ⟨rfl, rfl, rfl⟩
    | some c => cases hc
  | some v =>
    cases c with
    | none => cases hc
    | some c =>
      obtain ⟨k, rfl, hj⟩ := natIn_inv h
      have hc : ValRel m (.int k (j : Int)) c := hc
      rw [hc.int_inv]
      exact .inr ⟨k, rfl, hj⟩

/-- The three bounds of a slice of 'len' elements, at least 'cap' of which there is room for. -/
theorem sliceBounds_run {isSlice : Bool} {cap ccap len mm h l : Nat} {lo hi mx : Option AVal} {clo chi cmx : Option Value} (hcap : cap ≤ ccap) (hlen : len ≤ cap)
    (hshape : mx = none ∨ hi ≠ none) (h1 : bound cap cap mx = some mm) (h2 : bound mm len hi = some h) (h3 : bound h 0 lo = some l) (r1 : OptRel m mx cmx) (r2 : OptRel m hi chi) (r3 : OptRel m lo clo) (w : World) :
    ∃ cm, (Instr.sliceBounds isSlice len ccap clo chi cmx).run P w = .ok (l, h, cm) w ∧ mm ≤ cm ∧ cm ≤ ccap ∧ l ≤ h ∧ h ≤ mm ∧ mm ≤ cap ∧ (mx ≠ none → cm = mm) ∧ (mx = none → cm = ccap ∧ mm = cap) := by
  have hl : l ≤ h := by
    rcases bound_inv h3 r3 with ⟨_, _, rfl⟩ | ⟨k, _, hj⟩
    · omega
    · exact hj
  rcases bound_inv h1 r1 with ⟨rfl, rfl, rfl⟩ | ⟨k1, rfl, hj1⟩
  · rcases bound_inv h2 r2 with ⟨rfl, rfl, rfl⟩ | ⟨k2, rfl, hj2⟩
    · refine ⟨ccap, ?_, hcap, Nat.le_refl _, hl, hlen, Nat.le_refl _, fun h => absurd rfl h, fun _ => ⟨rfl, rfl⟩⟩
      rcases bound_inv h3 r3 with ⟨rfl, rfl, rfl⟩ | ⟨k3, rfl, hj3⟩
      · simp [Instr.sliceBounds]
      · simp [Instr.sliceBounds, sliceBound_run k3 _ hj3]
    · refine ⟨ccap, ?_, hcap, Nat.le_refl _, hl, hj2, Nat.le_refl _, fun h => absurd rfl h, fun _ => ⟨rfl, rfl⟩⟩
      have hj2' : h ≤ ccap := by omega
      rcases bound_inv h3 r3 with ⟨rfl, rfl, rfl⟩ | ⟨k3, rfl, hj3⟩
      · simp [Instr.sliceBounds, sliceBound_run k2 _ hj2']
      · simp [Instr.sliceBounds, sliceBound_run k2 _ hj2', sliceBound_run k3 _ hj3]
  · have hmx : mx ≠ none := by
      rintro rfl
      cases r1
    rcases hshape with rfl | hhi
    · exact absurd rfl hmx
    · rcases bound_inv h2 r2 with ⟨rfl, _, _⟩ | ⟨k2, rfl, hj2⟩
      · exact absurd rfl hhi
      · refine ⟨mm, ?_, Nat.le_refl _, by omega, hl, hj2, hj1, fun _ => rfl, fun h => absurd h hmx⟩
        have hj1' : mm ≤ ccap := by omega
        rcases bound_inv h3 r3 with ⟨rfl, rfl, rfl⟩ | ⟨k3, rfl, hj3⟩
        · simp [Instr.sliceBounds, sliceBound_run k1 _ hj1', sliceBound_run k2 _ hj2]
        · simp [Instr.sliceBounds, sliceBound_run k1 _ hj1', sliceBound_run k2 _ hj2, sliceBound_run k3 _ hj3]

theorem evSliceOf_inv {a : AAddr} {sz len cap : Nat} {ex : Bool} {lo hi mx : Option AVal} (h : evSliceOf a sz len cap ex lo hi mx = some v) :
    ∃ mm hh l, (mx = none ∨ hi ≠ none) ∧ bound cap cap mx = some mm ∧ bound mm len hi = some hh ∧ bound hh 0 lo = some l ∧
      ((l < mm ∧ v = .slice { a with off := a.off + l * sz, lim := a.off + mm * sz } sz (hh - l) (mm - l) (ex || mx.isSome)) ∨
       (mm ≤ l ∧ (ex || mx.isSome) = true ∧ v = .slice a sz 0 0 true) ∨ (mm ≤ l ∧ v = .emptySl)) := by
  unfold evSliceOf at h
  split at h
  · cases h
  · rename_i mx' hi' hno
    split at h
    · cases h
    · rename_i mm hm
      split at h
      · cases h
      · rename_i hh hhi
        split at h
        · cases h
        · rename_i l hl
          refine ⟨mm, hh, l, ?_, hm, hhi, hl, ?_⟩
          · cases mx with
            | none => exact .inl rfl
            | some x =>
              cases hi with
              | none => exact absurd rfl (hno x rfl)
              | some y => exact .inr (by simp)
          · simp only at h
            split at h
            · rename_i hlt; cases h; exact .inl ⟨nat_lt_of_blt hlt, rfl⟩
            · rename_i hlt
              have hge : mm ≤ l := by
                rcases Nat.lt_or_ge l mm with h | h
                · have : Nat.blt l mm = true := Nat.ble_eq_true_of_le h
                  rw [this] at hlt; cases hlt
                · exact h
              split at h
              · rename_i hex; cases h; exact .inr (.inl ⟨hge, hex, rfl⟩)
              · cases h; exact .inr (.inr ⟨hge, rfl⟩)

theorem evSliceOf_rel {a : AAddr} {sz len cap ccap : Nat} {ex : Bool} {lo hi mx : Option AVal} {clo chi cmx : Option Value} (isSlice : Bool) (h : evSliceOf a sz len cap ex lo hi mx = some v) {pl : Pl}
    (g1 : m a.id a.ep = some pl) (g2 : a.lim ≤ pl.ext ∧ pl.frm ≤ a.off) (g3 : len ≤ cap) (g4 : cap ≤ ccap) (g5 : ex = true → ccap = cap) (g6 : a.off + cap * sz ≤ a.lim) (g7 : a.off + ccap * sz ≤ pl.tot) (g8 : ccap ≤ maxLen)
    (r1 : OptRel m mx cmx) (r2 : OptRel m hi chi) (r3 : OptRel m lo clo) (w : World) :
    ∃ l h cm, (Instr.sliceBounds isSlice len ccap clo chi cmx).run P w = .ok (l, h, cm) w ∧
      ValRel m v (.slice (some (if cm = l then ⟨pl.blk, a.off, none⟩ else (⟨pl.blk, a.off, none⟩ : Addr).add (l * sz))) (h - l) (cm - l)) := by
  obtain ⟨mm, hh, l, hsh, b1, b2, b3, hv⟩ := evSliceOf_inv h
  obtain ⟨cm, hrun, c1, c2, c3, c4, c5, c6, c7⟩ := sliceBounds_run (P := P) (isSlice := isSlice) g4 g3 hsh b1 b2 b3 r1 r2 r3 w
  refine ⟨l, hh, cm, hrun, ?_⟩
  have hexact : (ex || mx.isSome) = true → cm = mm := by
    intro hx
    cases mx with
    | none => obtain ⟨q1, q2⟩ := c7 rfl; have := g5 (by simpa using hx); omega
    | some x => exact c6 (by simp)
  have hadd : (⟨pl.blk, a.off, none⟩ : Addr).add (l * sz) = ⟨pl.blk, a.off + l * sz, none⟩ := by unfold Addr.add; split <;> simp_all
  rcases hv with ⟨hlt, rfl⟩ | ⟨hge, hx, rfl⟩ | ⟨hge, rfl⟩
  · rw [if_neg (by omega), hadd]
    have e1 : mm * sz ≤ cap * sz := Nat.mul_le_mul_right _ c5
    have e2 : l * sz + (mm - l) * sz = mm * sz := by rw [← Nat.add_mul]; congr 1; omega
    have e3 : l * sz + (cm - l) * sz = cm * sz := by rw [← Nat.add_mul]; congr 1; omega
    have e4 : cm * sz ≤ ccap * sz := Nat.mul_le_mul_right _ c2
    exact .slice ⟨a.id, a.off + l * sz, a.ep, a.off + mm * sz⟩ sz (hh - l) (mm - l) (ex || mx.isSome) pl (cm - l) g1 ⟨(by show a.off + mm * sz ≤ pl.ext; omega), Nat.le_trans g2.2 (Nat.le_add_right _ _)⟩ (by omega) (by omega) (fun hx => by have := hexact hx; omega) (by show a.off + l * sz + (mm - l) * sz ≤ a.off + mm * sz; omega)
      (by show a.off + l * sz + (cm - l) * sz ≤ pl.tot; omega) (by omega)
  · have := hexact hx
    have hl : l = cm := by omega
    have hh' : hh = l := by omega
    subst hh'
    rw [if_pos hl.symm, show hh - hh = 0 by omega, show cm - hh = 0 by omega]
    exact .slice a sz 0 0 true pl 0 g1 g2 (Nat.le_refl _) (Nat.le_refl _) (fun _ => rfl) (by have : cap * sz ≥ 0 := Nat.zero_le _; omega) (by have : ccap * sz ≥ 0 := Nat.zero_le _; omega) (Nat.zero_le _)
  · have hh' : hh = l := by omega
    subst hh'
    rw [show hh - hh = 0 by omega]
    exact .emptySl _ _

theorem evSlice_sound {t : TypeId} {x : AVal} {lo hi mx : Option AVal} (h : evSlice P M t x lo hi mx = .val v M') {c : Value} {clo chi cmx : Option Value} (hc : ValRel m x c)
    (r1 : OptRel m mx cmx) (r2 : OptRel m hi chi) (r3 : OptRel m lo clo) : Pures P M M' m w (Instr.sliceAt t c clo chi cmx) v := by
  unfold evSlice at h
  split at h
  · rename_i s
    split at h
    · split at h
      · rename_i hu
        split at h
        · rename_i hh b2
          split at h
          · rename_i l b3
            cases h
            have hcm : cmx = none := by cases cmx with | none => rfl | some _ => cases r1
            subst hcm
            have hsz : (⟨s.toArray⟩ : ByteArray).size = s.length := by simp [ByteArray.size]
            obtain ⟨cm, hrun, c1, c2, c3, c4, _, _, _⟩ := sliceBounds_run (P := P) (isSlice := false) (mm := s.length) (Nat.le_refl s.length) (Nat.le_refl s.length) (.inl rfl) rfl b2 b3 (by trivial : OptRel m none none) r2 r3 w
            refine ⟨rfl, .string ⟨((s.drop l).take (hh - l)).toArray⟩, ?_, .str _⟩
            rw [hc.str_inv]
            have hx : (⟨s.toArray⟩ : ByteArray).extract l hh = ⟨((s.drop l).take (hh - l)).toArray⟩ := by
              apply ByteArray.ext
              rw [ByteArray.data_extract]
              simp [List.extract_eq_take_drop]
            unfold Instr.sliceAt
            simp only [Sem.run_bind, run_underlying hu, Result.andThen_ok]
            unfold Instr.slice
            simp only [Sem.run_bind, run_underlying hu, Result.andThen_ok, Option.isSome_none, Bool.false_eq_true, if_false, hsz, hrun, Sem.run_pure, hx]
          · cases h
        · cases h
      · cases h
    · cases h
  · rename_i a sz len cap ex
    split at h
    · rename_i n hn
      split at h
      · rename_i hsz
        obtain ⟨h1, rfl⟩ := OpR.ofOpt_inv h
        have hsz := Nat.eq_of_beq_eq_true hsz
        subst hsz
        obtain ⟨et, het, hs⟩ := Option.bind_eq_some_iff.1 hn
        have hu := elemOf_inv het
        obtain ⟨pl, cc, g1, g2, g3, g4, g5, g6, g7, g8, rfl⟩ := hc.slice_inv
        obtain ⟨l, hh, cm, hrun, hv⟩ := evSliceOf_rel (P := P) true h1 g1 g2 g3 g4 g5 g6 g7 g8 r1 r2 r3 w
        refine ⟨rfl, _, ?_, hv⟩
        unfold Instr.sliceAt
        simp only [Sem.run_bind, run_underlying hu, Result.andThen_ok]
        unfold Instr.slice
        simp only [Sem.run_bind, run_underlying hu, Result.andThen_ok, hrun, size?_run hs, Sem.run_pure]
        split <;> rfl
      · cases h
    · cases h
  · split at h
    · rename_i n hn
      split at h
      · split at h
        · rename_i j1 j2 b2 b3
          cases h
          obtain ⟨et, het, hs⟩ := Option.bind_eq_some_iff.1 hn
          have hu := elemOf_inv het
          have hcm : cmx = none := by cases cmx with | none => rfl | some _ => cases r1
          subst hcm
          have hj1 : j1 = 0 := by rcases bound_inv b2 r2 with ⟨_, _, h⟩ | ⟨_, _, h⟩ <;> omega
          have hj2 : j2 = 0 := by rcases bound_inv b3 r3 with ⟨_, _, h⟩ | ⟨_, _, h⟩ <;> omega
          subst hj1 hj2
          obtain ⟨cm, hrun, c1, c2, _⟩ := sliceBounds_run (P := P) (isSlice := true) (mm := 0) (Nat.le_refl 0) (Nat.le_refl 0) (.inl rfl) rfl b2 b3 (by trivial : OptRel m none none) r2 r3 w
          have hcm : cm = 0 := by omega
          subst hcm
          refine ⟨rfl, .slice none 0 0, ?_, .nilSlice⟩
          rw [hc.nilSlice_inv]
          unfold Instr.sliceAt
          simp only [Sem.run_bind, run_underlying hu, Result.andThen_ok]
          unfold Instr.slice
          simp only [Sem.run_bind, run_underlying hu, Result.andThen_ok, hrun, size?_run hs, Sem.run_pure, if_true, Nat.sub_self]
        · cases h
      · cases h
    · cases h
  · rename_i a
    split at h
    · rename_i n et hu
      split at h
      · rename_i sz hs
        split at h
        · rename_i hb
          obtain ⟨h1, rfl⟩ := OpR.ofOpt_inv h
          simp only [Bool.and_eq_true] at hb
          have hb1 := Nat.le_of_ble_eq_true hb.1
          have hb2 := Nat.le_of_ble_eq_true hb.2
          obtain ⟨pl, g1, g2, rfl⟩ := hc.ptr_inv
          have := pl.le
          obtain ⟨l, hh, cm, hrun, hv⟩ := evSliceOf_rel (P := P) false h1 g1 g2 (Nat.le_refl n) (Nat.le_refl n) (fun _ => rfl) hb1 (by omega) (by unfold maxLen; omega) r1 r2 r3 w
          refine ⟨rfl, _, ?_, hv⟩
          unfold Instr.sliceAt
          simp only [Sem.run_bind, run_underlying hu, Result.andThen_ok, Instr.sureAddr, Sem.run_pure, hrun, size?_run hs]
        · cases h
      · cases h
    · cases h
  · cases h

end
end Go.VE
