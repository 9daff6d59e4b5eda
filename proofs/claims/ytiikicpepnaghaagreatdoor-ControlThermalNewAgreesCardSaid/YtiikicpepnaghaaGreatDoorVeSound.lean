/-
  The abstract evaluator: each operation against the model's.
-/
import Derived.Test.YtiikicpepnaghaaGreatDoorVeExt
namespace Go.VE

section
variable {P : Program} {m : Plc} {w : World} {e : Env} {M M' : Mem} {o : Oper} {v : AVal} {ρ : Operand → Value}

theorem next_of_pures (hM : MemRel m M w) {s : Sem Value} (h : Pures P M M' m w s v) (ho : execOp ρ o = (do pure (Next.value (← s)))) : Acts P m M w (execOp ρ o) v M' := by
  obtain ⟨h1, c, h2, h3⟩ := h
  rw [ho]
  exact acts_of_pure hM h2 h3 h1

theorem acts_of_lays (hM : MemRel m M w) {hd : Nat → AVal} {b : ABlock} (h : Lays P e o hd b) (hv : evOp P e M o = .val v M') (hρ : OpsRel m e ρ o) : Acts P m M w (execOp ρ o) v M' := by
  rw [h.ev] at hv
  cases hv
  obtain ⟨cv, obj, w', pl, r1, r2, r3, r4, r5, r6, r7⟩ := h.run m w ρ hρ
  have hadd : ∀ e q, m.add M.next pl M.next e = some q ↔ e = 0 ∧ q = pl := fun e q =>
    ⟨fun h => Plc.add_only hM e q h, fun ⟨h1, h2⟩ => by subst h1 h2; exact Plc.add_at _ _ _⟩
  obtain ⟨v1, v2⟩ := r7 M.next (m.add M.next pl) (Plc.le_add hM.none_next pl) hadd
  exact ⟨m.add M.next pl, .value cv, w', r1, v1, hM.alloc r6 r2 v2, Fr.alloc hM r2 r6 r3 r4 r5⟩

theorem OpsRel.at (h : OpsRel m e ρ o) {x : Operand} (hx : x ∈ o.op.operands) : ValRel m (evalO e x) (ρ x) := h x hx

theorem optRel_map {r : Option Operand} (h : ∀ x, r = some x → ValRel m (evalO e x) (ρ x)) : OptRel m (r.map (evalO e)) (r.map ρ) := by
  cases r with
  | none => trivial
  | some x => exact h x rfl

theorem argsRel_map {l : List Operand} (h : ∀ x ∈ l, ValRel m (evalO e x) (ρ x)) : ArgsRel m (l.map (evalO e)) (l.map ρ) := by
  refine ⟨by simp, fun i v c hv hc => ?_⟩
  rw [List.getElem?_map] at hv hc
  cases hx : l[i]? with
  | none => rw [hx] at hv; cases hv
  | some x => rw [hx] at hv hc; cases hv; cases hc; exact h x (List.mem_of_getElem? hx)

/-- An operation that is no call of a Go function. -/
theorem evOp_val (hM : MemRel m M w) (hρ : OpsRel m e ρ o) (h : evOp P e M o = .val v M') : Acts P m M w (execOp ρ o) v M' := by
  have h0 := h
  unfold evOp at h
  cases ho : o.op with
  | move x =>
    rw [ho] at h; cases h
    exact ⟨m, .value (ρ x), w, by unfold execOp; rw [ho]; rfl, hρ.at (by rw [ho]; simp [Op.operands]), hM, Fr.refl m M w⟩
  | assign x =>
    rw [ho] at h; cases h
    exact ⟨m, .value (ρ x), w, by unfold execOp; rw [ho]; rfl, hρ.at (by rw [ho]; simp [Op.operands]), hM, Fr.refl m M w⟩
  | pick c a b =>
    rw [ho] at h
    obtain ⟨rfl, r, h1, h2⟩ := evPick_sound (P := P) (w := w) h (hρ.at (by rw [ho]; simp [Op.operands])) (hρ.at (x := a) (by rw [ho]; simp [Op.operands])) (hρ.at (x := b) (by rw [ho]; simp [Op.operands]))
    exact ⟨m, .value r, w, by unfold execOp; rw [ho]; exact h1, h2, hM, Fr.refl m M' w⟩
  | alloc t =>
    rw [ho] at h
    have hs : (zero P t).solid = true := by
      cases hz : (zero P t).solid with
      | true => rfl
      | false => simp [evNew, hz] at h
    exact acts_of_lays hM (lays_alloc ho hs) h0 hρ
  | box t x =>
    rw [ho] at h
    have hs : (evalO e x).solid = true := by
      cases hz : (evalO e x).solid with
      | true => rfl
      | false => simp [evNew, hz] at h
    exact acts_of_lays hM (lays_box ho hs) h0 hρ
  | build t ps =>
    rw [ho] at h
    exact next_of_pures hM (evBuild_sound (P := P) (m := m) (w := w) (ρ := ρ) h (fun p hp => hρ.at (by rw [ho]; simp only [Op.operands]; exact List.mem_toArray.2 (List.mem_map.2 ⟨p, hp, rfl⟩)))) (by unfold execOp; rw [ho])
  | buildSlice t n ps =>
    obtain ⟨hd, b, hl⟩ := lays_buildSlice ho h0
    exact acts_of_lays hM hl h0 hρ
  | insert t mm k u =>
    rw [ho] at h
    obtain ⟨w', h1, rfl, h2, h3⟩ := evMapUpdate_sound (P := P) hM h (hρ.at (x := mm) (by rw [ho]; simp [Op.operands])) (hρ.at (x := k) (by rw [ho]; simp [Op.operands])) (hρ.at (x := u) (by rw [ho]; simp [Op.operands]))
    exact ⟨m, .skip, w', by unfold execOp; rw [ho]; simp [h1], rfl, h2, h3⟩
  | load t x =>
    rw [ho] at h
    exact next_of_pures hM (evLoad_sound (P := P) hM h (hρ.at (by rw [ho]; simp [Op.operands]))) (by unfold execOp; rw [ho])
  | store t x u =>
    rw [ho] at h
    obtain ⟨w', h1, rfl, h2, h3⟩ := evStore_sound (P := P) hM h (hρ.at (x := x) (by rw [ho]; simp [Op.operands])) (hρ.at (x := u) (by rw [ho]; simp [Op.operands]))
    exact ⟨m, .skip, w', by unfold execOp; rw [ho]; simp [h1], rfl, h2, h3⟩
  | nilCheck x =>
    rw [ho] at h
    have hx := hρ.at (x := x) (by rw [ho]; simp [Op.operands])
    replace h : evNilCheck M (evalO e x) = .val v M' := h
    unfold evNilCheck at h
    split at h
    · rename_i hn
      cases h
      refine ⟨m, .value (ρ x), w, ?_, hx, hM, Fr.refl m M w⟩
      unfold execOp; rw [ho]
      unfold isNilable at hn
      split at hn
      · rename_i a heq; rw [heq] at hx; obtain ⟨pl, _, _, hc⟩ := hx.ptr_inv; simp only [hc]; rfl
      · rename_i f l heq; rw [heq] at hx; obtain ⟨cs, hc, _⟩ := hx.func_inv; simp only [hc]; rfl
      · cases hn
    · cases h
  | binOp op t x y t' =>
    rw [ho] at h
    obtain ⟨h1, rfl⟩ := OpR.ofOpt_inv h
    obtain ⟨r, h2, h3⟩ := binOp_run (P := P) h1 (hρ.at (x := x) (by rw [ho]; simp [Op.operands])) (hρ.at (x := y) (by rw [ho]; simp [Op.operands])) x y w
    exact next_of_pures hM ⟨rfl, r, h2, h3⟩ (by unfold execOp; rw [ho])
  | unOp op t x =>
    rw [ho] at h
    obtain ⟨h1, rfl⟩ := OpR.ofOpt_inv h
    obtain ⟨r, h2, h3⟩ := unOp_run (P := P) h1 (hρ.at (x := x) (by rw [ho]; simp [Op.operands])) w
    exact next_of_pures hM ⟨rfl, r, h2, h3⟩ (by unfold execOp; rw [ho])
  | convert s d x =>
    rw [ho] at h
    by_cases hd : ∃ et, P.underlying d = some (.slice et)
    · obtain ⟨et, hd⟩ := hd
      obtain ⟨hh, b, hl⟩ := lays_bytes ho hd h0
      exact acts_of_lays hM hl h0 hρ
    · exact next_of_pures hM (evConvert_plain (P := P) hM h (hρ.at (by rw [ho]; simp [Op.operands])) (fun et hh => hd ⟨et, hh⟩)) (by unfold execOp; rw [ho])
  | makeInterface t x =>
    rw [ho] at h
    exact next_of_pures hM (evIface_sound (P := P) h (hρ.at (by rw [ho]; simp [Op.operands]))) (by unfold execOp; rw [ho])
  | makeFunc fn a b =>
    rw [ho] at h
    exact next_of_pures hM (evFunc_sound (P := P) (m := m) (ρ := ρ) h (fun x hx => hρ.at (by rw [ho]; simp only [Op.operands]; exact Array.mem_append.2 (.inr (Array.mem_toList_iff.1 hx))))) (by unfold execOp; rw [ho])
  | makeMap t r =>
    obtain ⟨hd, b, hl⟩ := lays_makeMap ho h0
    exact acts_of_lays hM hl h0 hρ
  | makeSlice t l c =>
    obtain ⟨hd, b, hl⟩ := lays_makeSlice ho h0
    exact acts_of_lays hM hl h0 hρ
  | slice t x lo hi mx =>
    rw [ho] at h
    refine next_of_pures hM (evSlice_sound (P := P) h (hρ.at (x := x) (by rw [ho]; simp [Op.operands])) (optRel_map fun y hy => hρ.at ?_) (optRel_map fun y hy => hρ.at ?_) (optRel_map fun y hy => hρ.at ?_)) (by unfold execOp; rw [ho])
    all_goals (rw [ho]; subst hy; simp [Op.operands])
  | fieldAddr t x i =>
    rw [ho] at h
    exact next_of_pures hM (evFieldAddr_sound (P := P) h (hρ.at (by rw [ho]; simp [Op.operands]))) (by unfold execOp; rw [ho])
  | field t x i =>
    rw [ho] at h
    exact next_of_pures hM (evField_sound (P := P) h (hρ.at (by rw [ho]; simp [Op.operands]))) (by unfold execOp; rw [ho])
  | indexAddr t x i =>
    rw [ho] at h
    exact next_of_pures hM (evIndexAddr_sound (P := P) h (hρ.at (x := x) (by rw [ho]; simp [Op.operands])) (hρ.at (x := i) (by rw [ho]; simp [Op.operands]))) (by unfold execOp; rw [ho])
  | index t x i =>
    rw [ho] at h
    exact next_of_pures hM (evIndex_sound (P := P) h (hρ.at (x := x) (by rw [ho]; simp [Op.operands])) (hρ.at (x := i) (by rw [ho]; simp [Op.operands]))) (by unfold execOp; rw [ho])
  | lookup t x k ok =>
    rw [ho] at h
    exact next_of_pures hM (evLookup_sound (P := P) hM h (hρ.at (x := x) (by rw [ho]; simp [Op.operands])) (hρ.at (x := k) (by rw [ho]; simp [Op.operands]))) (by unfold execOp; rw [ho])
  | mapUpdate t mm k u =>
    rw [ho] at h
    obtain ⟨w', h1, rfl, h2, h3⟩ := evMapUpdate_sound (P := P) hM h (hρ.at (x := mm) (by rw [ho]; simp [Op.operands])) (hρ.at (x := k) (by rw [ho]; simp [Op.operands])) (hρ.at (x := u) (by rw [ho]; simp [Op.operands]))
    exact ⟨m, .skip, w', by unfold execOp; rw [ho]; simp [h1], rfl, h2, h3⟩
  | extract x i =>
    rw [ho] at h
    exact next_of_pures hM (evExtract_sound (P := P) h (hρ.at (by rw [ho]; simp [Op.operands]))) (by unfold execOp; rw [ho])
  | call c =>
    rw [ho] at h
    obtain ⟨callee, args, ats⟩ := c
    cases callee with
    | value f =>
      simp only [evCallOp, evCallee] at h
      split at h
      · rename_i g cap heq
        split at h
        · cases h
        · rename_i x hx
          obtain ⟨h1, rfl⟩ := OpR.ofOpt_inv h
          have hg := hρ.at (x := f) (by rw [ho]; simp [Op.operands, Call.operands])
          rw [heq] at hg
          obtain ⟨ccs, hc, hl, hr⟩ := hg.func_inv
          have hargs := argsRel_map (m := m) (e := e) (ρ := ρ) (l := args.toList) (fun x hx => hρ.at (by rw [ho]; simp only [Op.operands, Call.operands]; exact Array.mem_append.2 (.inr (Array.mem_toList_iff.1 hx))))
          have hall : ArgsRel m (args.toList.map (evalO e) ++ cap) (args.toList.map ρ ++ ccs.toList) := by
            refine ⟨by simp [hl, hargs.1], fun i v c hv hc' => ?_⟩
            by_cases hi : i < args.toList.length
            · rw [List.getElem?_append_left (by simpa using hi)] at hv hc'
              exact hargs.2 i v c hv hc'
            · rw [List.getElem?_append_right (by simpa using hi)] at hv hc'
              exact hr _ v c (by simpa using hv) (by simpa using hc')
          obtain ⟨c, h2, h3⟩ := ext_call hx h1 hall w
          refine ⟨m, .value c, w, ?_, h3, hM, Fr.refl m _ w⟩
          unfold execOp
          rw [ho]
          simp only [resolve, hc, Deferred.ofValue]
          have harr : (args.toList.map ρ ++ ccs.toList).toArray = args.map ρ ++ ccs := by apply Array.ext'; simp
          rw [harr] at h2
          simp only [invoke, Sem.run_bind, Sem.run_pure, Result.andThen_ok]
          have he : (#[] : Array Value) ++ Array.map ρ args = Array.map ρ args := by simp
          rw [he]
          exact h2
      · cases h
    | invoke r mm => simp only [evCallOp] at h; cases h
    | builtin b =>
      simp only [evCallOp] at h
      have hargs := argsRel_map (m := m) (e := e) (ρ := ρ) (l := args.toList) (fun x hx => hρ.at (by rw [ho]; simp only [Op.operands, Call.operands]; exact Array.mem_append.2 (.inr (Array.mem_toList_iff.1 hx))))
      have := builtin_sound hM h hargs o.type (args.map fun | .const _ => true | _ => false)
      have heq : execOp ρ o = Go.builtin b ats o.type (args.map fun | .const _ => true | _ => false) (args.toList.map ρ).toArray := by
        unfold execOp
        rw [ho]
        simp only [resolve, invoke]
        have : (args.toList.map ρ).toArray = args.map ρ := by rw [← Array.toList_map, Array.toArray_toList]
        rw [this]
        rfl
      rw [heq]
      exact this
  | _ => rw [ho] at h; cases h

/-! Nothing but a call calls -/

section
variable {f : FuncId} {args : List AVal}

theorem ofOpt_noCall {x : Option AVal} : OpR.ofOpt M x ≠ .call f args := by cases x <;> (intro h; cases h)
theorem evAgg_noCall {x : Option (List AVal)} : evAgg M x ≠ .call f args := by cases x <;> (intro h; cases h)
theorem evRow_noCall {sz n : Nat} {x : Option (List AVal)} : evRow M sz n x ≠ .call f args := by cases x <;> (intro h; cases h)
theorem ofMem_noCall {x : Option Mem} : OpR.ofMem x ≠ .call f args := by cases x <;> (intro h; cases h)
theorem evPut_noCall {id : Nat} {x : Option (List (AVal × AVal))} : evPut M id x ≠ .call f args := by cases x <;> (intro h; cases h)
theorem copied_noCall {n : Nat} {x : Option Mem} : copied n x ≠ .call f args := by cases x <;> (intro h; cases h)
theorem appendNew_noCall {sz n : Nat} {x : List AVal} : appendNew M sz n x ≠ .call f args := by intro h; cases h
theorem evFound_noCall {z : AVal} {ok : Bool} {x : Option (Option AVal)} : evFound M z ok x ≠ .call f args := by
  intro h; unfold evFound at h; split at h <;> cases h
theorem evBytes_noCall {x : Option (List AVal)} : evBytes M x ≠ .call f args := by cases x with | none => intro h; cases h | some l => exact ofOpt_noCall
theorem appendIn_noCall {a : AAddr} {sz len n cap : Nat} {ex : Bool} {l : List AVal} : appendIn M a sz len n cap ex l ≠ .call f args := by
  intro h; unfold appendIn at h; split at h
  · cases h
  · split at h <;> cases h
theorem appendOld_noCall {sz len n : Nat} {l : List AVal} {x : Option (List AVal)} : appendOld M sz len n l x ≠ .call f args := by cases x <;> (intro h; cases h)
theorem appendTip_noCall {a : AAddr} {sz len n : Nat} {l : List AVal} : appendTip M a sz len n l ≠ .call f args := by
  intro h; unfold appendTip at h; split at h
  · split at h <;> cases h
  · cases h
theorem append_noCall {et : TypeId} {x y : AVal} : append P M et x y ≠ .call f args := by
  intro h
  unfold append at h
  split at h
  · unfold appendAll at h
    split at h
    · split at h
      · unfold appendTo at h
        split at h
        · split at h
          · cases h
          · split at h
            · exact appendNew_noCall h
            · cases h
        · split at h
          · split at h
            · exact appendIn_noCall h
            · split at h
              · exact appendOld_noCall h
              · exact appendTip_noCall h
          · cases h
        · cases h
      · cases h
    · cases h
  · cases h
theorem copy_noCall {et : TypeId} {x y : AVal} : copy P M et x y ≠ .call f args := by
  intro h
  unfold copy at h
  split at h
  · unfold copyTo at h
    split at h
    · split at h
      · cases h
      · split at h
        · exact copied_noCall h
        · cases h
      · cases h
    · cases h
  · cases h
theorem builtin_noCall {b : Builtin} {ts : Array TypeId} {l : List AVal} : builtin P M b ts l ≠ .call f args := by
  intro h
  unfold builtin at h
  split at h
  · exact ofOpt_noCall h
  · exact ofOpt_noCall h
  · split at h
    · split at h
      · cases h
      · exact append_noCall h
      · cases h
    · cases h
  · split at h
    · exact copy_noCall h
    · cases h
  · exact ofOpt_noCall h
  · exact ofOpt_noCall h
  · split at h
    · split at h
      · exact evPut_noCall h
      · cases h
    · cases h
  · cases h

theorem evOp_onlyCalls (h : evOp P e M o = .call f args) : ∃ c, o.op = .call c ∧ evCallOp P e M c = .call f args := by
  unfold evOp at h
  cases ho : o.op with
  | call c => rw [ho] at h; exact ⟨c, rfl, h⟩
  | move x => rw [ho] at h; cases h
  | assign x => rw [ho] at h; cases h
  | pick c a b => rw [ho] at h; replace h : evPick M (evalO e c) (evalO e a) (evalO e b) = _ := h; unfold evPick at h; split at h <;> cases h
  | alloc t => rw [ho] at h; replace h : evNew M (zero P t) = _ := h; unfold evNew at h; split at h <;> cases h
  | box t x => rw [ho] at h; replace h : evNew M (evalO e x) = _ := h; unfold evNew at h; split at h <;> cases h
  | build t ps =>
    rw [ho] at h; replace h : evBuild P e M t ps = _ := h; unfold evBuild at h
    split at h
    · unfold evBuildZ at h
      split at h
      · split at h
        · split at h
          · exact absurd h evAgg_noCall
          · cases h
        · split at h
          · exact absurd h evAgg_noCall
          · cases h
        · cases h
      · cases h
    · cases h
  | buildSlice t n ps =>
    rw [ho] at h; replace h : evBuildSlice P e M t n ps = _ := h; unfold evBuildSlice at h
    split at h
    · split at h
      · split at h
        · exact absurd h evRow_noCall
        · cases h
      · cases h
    · cases h
  | insert t a b c =>
    rw [ho] at h; replace h : evMapUpdate P M t (evalO e a) (evalO e b) (evalO e c) = _ := h; unfold evMapUpdate at h
    split at h
    · split at h
      · split at h
        · exact absurd h evPut_noCall
        · cases h
      · cases h
    · cases h
  | load t x => rw [ho] at h; replace h : evLoad P M t (evalO e x) = _ := h; unfold evLoad at h; split at h <;> first | exact absurd h ofOpt_noCall | cases h
  | store t x v => rw [ho] at h; replace h : evStore P M t (evalO e x) (evalO e v) = _ := h; unfold evStore at h; split at h <;> first | exact absurd h ofMem_noCall | cases h
  | nilCheck x => rw [ho] at h; replace h : evNilCheck M (evalO e x) = _ := h; unfold evNilCheck at h; split at h <;> cases h
  | binOp op t x y t' => rw [ho] at h; exact absurd h ofOpt_noCall
  | unOp op t x => rw [ho] at h; exact absurd h ofOpt_noCall
  | convert s d x =>
    rw [ho] at h; replace h : evConvert P M s d (evalO e x) = _ := h; unfold evConvert at h
    split at h
    · cases h
    · split at h
      · split at h <;> cases h
      · unfold evToString at h
        split at h
        · cases h
        · split at h
          · split at h
            · split at h
              · cases h
              · split at h
                · exact absurd h evBytes_noCall
                · cases h
              · cases h
            · cases h
          · cases h
      · split at h
        · split at h
          · split at h <;> cases h
          · cases h
        · cases h
      · cases h
  | makeInterface t x => rw [ho] at h; replace h : evIface P M t (evalO e x) = _ := h; unfold evIface at h; split at h <;> cases h
  | makeFunc fn a b => rw [ho] at h; replace h : evFunc e M fn a b = _ := h; unfold evFunc at h; split at h <;> cases h
  | makeMap t r =>
    rw [ho] at h; replace h : evMakeMap P e M t r = _ := h; unfold evMakeMap at h
    split at h
    · cases h
    · split at h
      · cases h
      · split at h <;> cases h
  | makeSlice t l c =>
    rw [ho] at h; replace h : evMakeSlice P M t (evalO e l) (evalO e c) = _ := h; unfold evMakeSlice at h
    split at h
    · split at h
      · split at h
        · split at h <;> cases h
        · cases h
      · cases h
    · cases h
  | slice t x lo hi mx =>
    rw [ho] at h; replace h : evSlice P M t (evalO e x) (lo.map (evalO e)) (hi.map (evalO e)) (mx.map (evalO e)) = _ := h; unfold evSlice at h
    split at h
    · split at h
      · split at h
        · split at h
          · split at h <;> cases h
          · cases h
        · cases h
      · cases h
    · split at h
      · split at h
        · exact absurd h ofOpt_noCall
        · cases h
      · cases h
    · split at h
      · split at h
        · split at h <;> cases h
        · cases h
      · cases h
    · split at h
      · split at h
        · split at h
          · exact absurd h ofOpt_noCall
          · cases h
        · cases h
      · cases h
    · cases h
  | fieldAddr t x i =>
    rw [ho] at h; replace h : evFieldAddr P M t (evalO e x) i = _ := h; unfold evFieldAddr at h
    split at h
    · split at h
      · split at h <;> cases h
      · cases h
    · cases h
  | field t x i =>
    rw [ho] at h; replace h : evField P M t (evalO e x) i = _ := h; unfold evField at h
    split at h
    · split at h
      · exact absurd h ofOpt_noCall
      · cases h
    · cases h
  | indexAddr t x i =>
    rw [ho] at h; replace h : evIndexAddr P M t (evalO e x) (evalO e i) = _ := h; unfold evIndexAddr at h
    split at h
    · split at h
      · split at h
        · split at h
          · split at h <;> cases h
          · cases h
        · cases h
      · cases h
    · split at h
      · split at h
        · split at h <;> cases h
        · cases h
      · cases h
    · cases h
  | index t x i =>
    rw [ho] at h; replace h : evIndex P M t (evalO e x) (evalO e i) = _ := h; unfold evIndex at h
    split at h
    · split at h
      · split at h
        · exact absurd h ofOpt_noCall
        · cases h
      · split at h
        · split at h
          · exact absurd h ofOpt_noCall
          · cases h
        · cases h
      · cases h
    · cases h
  | lookup t x k ok =>
    rw [ho] at h; replace h : evLookup P M t (evalO e x) (evalO e k) ok = _ := h; unfold evLookup at h
    split at h
    · split at h
      · split at h
        · unfold evLookupZ at h
          split at h
          · exact absurd h evFound_noCall
          · exact absurd h evFound_noCall
          · cases h
        · cases h
      · cases h
    · cases h
  | mapUpdate t a b c =>
    rw [ho] at h; replace h : evMapUpdate P M t (evalO e a) (evalO e b) (evalO e c) = _ := h; unfold evMapUpdate at h
    split at h
    · split at h
      · split at h
        · exact absurd h evPut_noCall
        · cases h
      · cases h
    · cases h
  | extract x i => rw [ho] at h; replace h : evExtract M (evalO e x) i = _ := h; unfold evExtract at h; split at h <;> first | exact absurd h ofOpt_noCall | cases h
  | _ => rw [ho] at h; cases h

end

/-- A call of a Go function that has a body. -/
theorem evOp_call (hρ : OpsRel m e ρ o) {f : FuncId} {args : List AVal} (h : evOp P e M o = .call f args) {fn : Func} (hf : P.funcs[f]? = some fn) (hb : fn.body.isSome = true) (hn : fn.name ≠ "runtime.NumGoroutine") (w : World) :
    ∃ cs : List Value, (execOp ρ o).run P w = .ok (.enter f cs.toArray) w ∧ ArgsRel m args cs := by
  obtain ⟨c, ho, h⟩ := evOp_onlyCalls h
  obtain ⟨callee, as, ats⟩ := c
  cases callee with
  | builtin b => simp only [evCallOp] at h; exact absurd h builtin_noCall
  | invoke r mm => simp only [evCallOp] at h; cases h
  | value g =>
    simp only [evCallOp, evCallee] at h
    split at h
    · rename_i f' cap heq
      split at h
      rotate_left
      · exact absurd h ofOpt_noCall
      cases h
      have hg := hρ.at (x := g) (by rw [ho]; simp [Op.operands, Call.operands])
      rw [heq] at hg
      obtain ⟨ccs, hc, hl, hr⟩ := hg.func_inv
      have hargs := argsRel_map (m := m) (e := e) (ρ := ρ) (l := as.toList) (fun x hx => hρ.at (by rw [ho]; simp only [Op.operands, Call.operands]; exact Array.mem_append.2 (.inr (Array.mem_toList_iff.1 hx))))
      refine ⟨as.toList.map ρ ++ ccs.toList, ?_, ?_, ?_⟩
      · unfold execOp
        rw [ho]
        simp only [resolve, hc, Deferred.ofValue]
        have hbn : ¬ fn.body = none := by cases hq : fn.body <;> simp_all
        have harr : (as.toList.map ρ ++ ccs.toList).toArray = as.map ρ ++ ccs := by apply Array.ext'; simp
        rw [harr]
        simp only [invoke, callFunc, Sem.run_bind, Sem.run_pure, Result.andThen_ok, run_program, hf]
        simp only [beq_iff_eq, if_neg hn, Option.isNone_iff_eq_none, if_neg hbn, Sem.run_pure]
        simp
      · simp [hl, hargs.1]
      · intro i v c hv hc'
        by_cases hi : i < as.toList.length
        · rw [List.getElem?_append_left (by simpa using hi)] at hv hc'
          exact hargs.2 i v c hv hc'
        · rw [List.getElem?_append_right (by simpa using hi)] at hv hc'
          exact hr _ v c (by simpa using hv) (by simpa using hc')
    · cases h

end
end Go.VE
