/-
  The abstract evaluator: copy, delete, the builtins; every operation.
-/
import Derived.Test.YtiikicpepnaghaaGreatDoorVeAct2
namespace Go.VE

section
variable {P : Program} {m : Plc} {w : World} {M M' : Mem} {v : AVal}

theorem copied_inv {n : Nat} {x : Option Mem} (h : copied n x = .val v M') : x = some M' ∧ v = .int .i64 n := by
  cases x with
  | none => cases h
  | some M1 => cases h; exact ⟨rfl, rfl⟩

theorem copy_sound (hM : MemRel m M w) {t u ty et : TypeId} (ht : P.underlying t = some (.slice et)) {x y : AVal} (h : copy P M et x y = .val v M') {cx cy : Value} (hx : ValRel m x cx) (hy : ValRel m y cy) :
    Gives P m M w (Builtin.copy_ #[t, u] ty #[cx, cy]) v M' := by
  unfold copy at h
  cases hz : zeroCells P et with
  | none => rw [hz] at h; cases h
  | some q =>
    obtain ⟨sz, z⟩ := q
    rw [hz] at h
    simp only at h
    obtain ⟨i, zv, hi, rfl, hzv, hzz, hzl, hpos, hzrow⟩ := zeroCells_inv hz
    cases hn : newsOf M i.size y with
    | none => rw [hn] at h; cases h
    | some news =>
      rw [hn] at h
      obtain ⟨cs, n, hnews⟩ := newsOf_rel (P := P) hM hn hy
      unfold copyTo at h
      simp only at h
      have hrun0 : ∀ (base : Option Addr) (dLen dCap : Nat), (Builtin.copy_ #[t, u] ty #[.slice base dLen dCap, cy]).run P w =
          (((match base with | some a => Go.storeCells a (cs.extract 0 (Nat.min n dLen * i.size)).toList | none => pure ()) : Sem Unit).run P w).andThen fun _ w' => .ok (goInt (Nat.min n dLen)) w' := by
        intro base dLen dCap
        have hmin : Nat.min n dLen ≤ n := Nat.min_le_left _ _
        have htk := hnews.take (Nat.min n dLen) w hmin rfl
        have hl := hnews.len
        cases base with
        | none => simp [Builtin.copy_, run_underlying ht, Go.sizeOf, Go.typeInfo, hi, hl, htk]
        | some a => simp [Builtin.copy_, run_underlying ht, Go.sizeOf, Go.typeInfo, hi, hl, htk]
      split at h
      · cases h
        rw [hx.nilSlice_inv]
        refine ⟨m, .int .i64 0, w, ?_, .int _ _, hM, Fr.refl m M w⟩
        rw [hrun0]
        have : Nat.min n 0 = 0 := Nat.min_zero n
        rw [this]; rfl
      · rename_i a sz' len cap ex
        split at h
        · rename_i hc
          simp only [Bool.and_eq_true] at hc
          have hs1 := Nat.eq_of_beq_eq_true hc.1
          subst hs1
          obtain ⟨hs, rfl⟩ := copied_inv h
          obtain ⟨pl, cc, g1, g2, g3, g4, g5, g6, g7, g8, rfl⟩ := hx.slice_inv
          have hdiv : news.length / i.size = n := by rw [hnews.size]; exact Nat.mul_div_cancel _ hpos
          rw [hdiv] at hs ⊢
          have hmn : min len n = Nat.min n len := Nat.min_comm len n
          have hrow : RowRel m (news.take (min len n * i.size)) (cs.extract 0 (Nat.min n len * i.size)).toList.toArray := by
            have := hnews.row.take_drop 0 (min len n * i.size)
            rw [hmn] at this ⊢
            simp only [List.drop_zero, Nat.zero_add] at this
            rwa [Array.toArray_toList]
          obtain ⟨w', hr, h1, h2⟩ := storeCells_rel (P := P) hM hs (pl := pl) g1 hrow g2
          refine ⟨m, .int .i64 (min len n : Nat), w', ?_, .int _ _, h1, h2⟩
          rw [hrun0]
          simp only [hr, Result.andThen_ok]
          rw [← hmn]; rfl
        · cases h
      · cases h

theorem delete_sound (hM : MemRel m M w) {t : TypeId} {ty kt et : TypeId} {rest : Array TypeId} (ht : mapTypes P t = some (kt, et)) (hts : rest[0]? = some t) (hpl : plainType P kt = true) {id : Nat} {k : AVal} (h : evPut M id ((entriesOf M id).bind (dropKey P kt k)) = .val v M')
    {cx ck : Value} (hx : ValRel m (.map id) cx) (hk : ValRel m k ck) : Gives P m M w (Builtin.delete_ rest ty #[cx, ck]) v M' := by
  have hu := mapTypes_inv ht
  obtain ⟨dsc, hty⟩ := plainType_inv hpl
  obtain ⟨pl, hp, rfl⟩ := hx.map_inv
  cases he : entriesOf M id with
  | none => rw [he] at h; cases h
  | some es =>
    rw [he] at h
    simp only [Option.bind_some] at h
    cases hq : dropKey P kt k es with
    | none => rw [hq] at h; cases h
    | some es' =>
      rw [hq] at h
      cases h
      obtain ⟨ents, clock, hw, hpairs⟩ := entriesOf_rel hM he hp
      rcases dropKey_run hty hk es es' ents.toList 0 hq hpairs with ⟨j, y, a1, a2, a3⟩ | ⟨a1, a2⟩
      · have hfind := MapKept.run_findKey (P := P) (w := w) hty a1
        have hj : j < ents.size := by simpa using a3
        have heq : (ents.eraseIdxIfInBounds j).toList = ents.toList.eraseIdx j := by
          simp [Array.eraseIdxIfInBounds, hj]
        obtain ⟨r1, r2⟩ := hM.setMap (entriesOf_get he) hp (clock' := clock) hw (ents' := ents.eraseIdxIfInBounds j) (by rw [heq]; exact a2)
        refine ⟨m, .tuple #[], _, ?_, ValRel.skip, r1, r2⟩
        simp only [Nat.zero_add] at hfind
        simp [Builtin.delete_, hts, run_underlying hu, MapKept.run_getObj_map hw, checkKey_plain hpl, hfind, MapKept.run_setObj_map _ hw]
      · have hfind := MapKept.run_findKey (P := P) (w := w) hty a1
        obtain ⟨r1, r2⟩ := hM.setMap (entriesOf_get he) hp (clock' := clock) hw (ents' := ents) a2
        refine ⟨m, .tuple #[], _, ?_, ValRel.skip, r1, r2⟩
        simp [Builtin.delete_, hts, run_underlying hu, MapKept.run_getObj_map hw, checkKey_plain hpl, hfind, MapKept.run_setObj_map _ hw]

/-- The operands of a call of a builtin. -/
def ArgsRel (m : Plc) (as : List AVal) (cs : List Value) : Prop := as.length = cs.length ∧ ∀ (i : Nat) (v : AVal) (c : Value), as[i]? = some v → cs[i]? = some c → ValRel m v c

theorem ArgsRel.one {a : AVal} {cs : List Value} (h : ArgsRel m [a] cs) : ∃ c, cs = [c] ∧ ValRel m a c := by
  match cs, h with
  | [c], h => exact ⟨c, rfl, h.2 0 a c rfl rfl⟩
  | [], h => exact absurd h.1 (by simp)
  | _ :: _ :: _, h => exact absurd h.1 (by simp)

theorem ArgsRel.two {a b : AVal} {cs : List Value} (h : ArgsRel m [a, b] cs) : ∃ c d, cs = [c, d] ∧ ValRel m a c ∧ ValRel m b d := by
  match cs, h with
  | [c, d], h => exact ⟨c, d, rfl, h.2 0 a c rfl rfl, h.2 1 b d rfl rfl⟩
  | [], h => exact absurd h.1 (by simp)
  | [_], h => exact absurd h.1 (by simp)
  | _ :: _ :: _ :: _, h => exact absurd h.1 (by simp)

theorem acts_of_gives {s : Sem Value} (h : Gives P m M w s v M') : Acts P m M w (do pure (Next.value (← s))) v M' := by
  obtain ⟨m', c, w', h1, h2, h3, h4⟩ := h
  exact ⟨m', .value c, w', by rw [Sem.run_bind, h1]; rfl, h2, h3, h4⟩

theorem acts_of_pure (hM : MemRel m M w) {s : Sem Value} {c : Value} (h : s.run P w = .ok c w) (hv : ValRel m v c) (hMM : M' = M) : Acts P m M w (do pure (Next.value (← s))) v M' := by
  subst hMM
  exact ⟨m, .value c, w, by rw [Sem.run_bind, h]; rfl, hv, hM, Fr.refl m M' w⟩

theorem builtin_sound (hM : MemRel m M w) {b : Builtin} {ts : Array TypeId} {args : List AVal} (h : builtin P M b ts args = .val v M') {cs : List Value} (hargs : ArgsRel m args cs) (ty : TypeId) (consts : Array Bool) :
    Acts P m M w (Go.builtin b ts ty consts cs.toArray) v M' := by
  unfold builtin at h
  split at h
  · rename_i x
    obtain ⟨c, rfl, hc⟩ := hargs.one
    obtain ⟨h1, rfl⟩ := OpR.ofOpt_inv h
    cases ht : ts[0]? with
    | none => rw [ht] at h1; cases h1
    | some t =>
      rw [ht] at h1
      obtain ⟨r, hr, hv⟩ := lenV_rel (P := P) (t := t) (ty := ty) hM h1 hc
      refine acts_of_pure hM ?_ hv rfl
      have : Builtin.len_ ts ty #[c] = Builtin.len_ #[t] ty #[c] := by simp [Builtin.len_, ht]
      show (Builtin.len_ ts ty #[c]).run P w = _
      rw [this, hr]
  · rename_i x
    obtain ⟨c, rfl, hc⟩ := hargs.one
    obtain ⟨h1, rfl⟩ := OpR.ofOpt_inv h
    cases ht : ts[0]? with
    | none => rw [ht] at h1; cases h1
    | some t =>
      rw [ht] at h1
      obtain ⟨r, hr, hv⟩ := capV_rel (P := P) (w := w) (t := t) (ty := ty) h1 hc
      refine acts_of_pure hM ?_ hv rfl
      have : Builtin.cap_ ts ty #[c] = Builtin.cap_ #[t] ty #[c] := by simp [Builtin.cap_, ht]
      show (Builtin.cap_ ts ty #[c]).run P w = _
      rw [this, hr]
  · rename_i x y
    obtain ⟨c, d, rfl, hc, hd⟩ := hargs.two
    cases ht : ts[0]? with
    | none => rw [ht] at h; cases h
    | some t =>
      rw [ht] at h
      simp only [Option.bind_some] at h
      cases he : elemOf P t with
      | none => rw [he] at h; cases h
      | some et =>
        rw [he] at h
        simp only at h
        cases hu : ts[1]? with
        | none => rw [hu] at h; cases h
        | some u =>
          rw [hu] at h
          simp only [Option.bind_some] at h
          cases hud : P.underlying u with
          | none => rw [hud] at h; cases h
          | some dsc =>
            rw [hud] at h
            have hni : (∀ k, dsc ≠ .int k) ∧ append P M et x y = .val v M' := by
              cases dsc <;> first | (cases h; done) | exact ⟨fun k e => (by cases e), h⟩
            have := append_sound hM (ty := ty) (elemOf_inv he) hud hni.1 hni.2 hc hd
            have heq : Builtin.append_ ts ty #[c, d] = Builtin.append_ #[t, u] ty #[c, d] := by simp [Builtin.append_, ht, hu]
            rw [← heq] at this
            exact acts_of_gives this
  · rename_i x y
    obtain ⟨c, d, rfl, hc, hd⟩ := hargs.two
    cases ht : ts[0]? with
    | none => rw [ht] at h; cases h
    | some t =>
      rw [ht] at h
      simp only [Option.bind_some] at h
      cases he : elemOf P t with
      | none => rw [he] at h; cases h
      | some et =>
        rw [he] at h
        have := copy_sound hM (ty := ty) (u := 0) (elemOf_inv he) h hc hd
        have heq : Builtin.copy_ ts ty #[c, d] = Builtin.copy_ #[t, 0] ty #[c, d] := by simp [Builtin.copy_, ht]
        rw [← heq] at this
        exact acts_of_gives this
  · rename_i k x rest
    obtain ⟨h1, rfl⟩ := OpR.ofOpt_inv h
    match cs, hargs with
    | [], hargs => exact absurd hargs.1 (by simp)
    | c :: cs, hargs =>
      have hc := hargs.2 0 _ c rfl rfl
      obtain ⟨r, hr, hv⟩ := minInt_rel (P := P) (w := w) rest cs x h1 (by simpa using hargs.1) (fun i u c a b => hargs.2 (i + 1) u c (by simpa using a) (by simpa using b))
      refine acts_of_pure hM (s := Builtin.min_ ts ty (c :: cs).toArray) ?_ hv rfl
      rw [hc.int_inv]
      simpa [Builtin.min_] using hr
  · rename_i k x rest
    obtain ⟨h1, rfl⟩ := OpR.ofOpt_inv h
    match cs, hargs with
    | [], hargs => exact absurd hargs.1 (by simp)
    | c :: cs, hargs =>
      have hc := hargs.2 0 _ c rfl rfl
      obtain ⟨r, hr, hv⟩ := maxInt_rel (P := P) (w := w) rest cs x h1 (by simpa using hargs.1) (fun i u c a b => hargs.2 (i + 1) u c (by simpa using a) (by simpa using b))
      refine acts_of_pure hM (s := Builtin.max_ ts ty (c :: cs).toArray) ?_ hv rfl
      rw [hc.int_inv]
      simpa [Builtin.max_] using hr
  · rename_i id k
    obtain ⟨c, d, rfl, hc, hd⟩ := hargs.two
    cases ht : ts[0]? with
    | none => rw [ht] at h; cases h
    | some t =>
      rw [ht] at h
      simp only [Option.bind_some] at h
      cases he : mapTypes P t with
      | none => rw [he] at h; cases h
      | some q =>
        obtain ⟨kt, et⟩ := q
        rw [he] at h
        simp only at h
        split at h
        · rename_i hpl
          exact acts_of_gives (delete_sound hM (ty := ty) he ht hpl h hc hd)
        · cases h
  · cases h

end
end Go.VE
