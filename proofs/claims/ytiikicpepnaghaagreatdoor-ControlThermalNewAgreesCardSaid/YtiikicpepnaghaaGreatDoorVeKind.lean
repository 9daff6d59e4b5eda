/-
  The abstract evaluator: what memory an operation needs.
-/
import Derived.Test.YtiikicpepnaghaaGreatDoorVeCode
namespace Go.VE

theorem beq0_eq {a b : AVal} (h : AVal.beq0 a b = true) : a = b := by
  unfold AVal.beq0 at h
  split at h
  · simp only [beq_iff_eq] at h; rw [h]
  · simp only [Bool.and_eq_true, beq_iff_eq] at h; rw [h.1, h.2]
  · simp only [eqBytes_iff, beq_iff_eq] at h; rw [h]
  · rename_i a b
    simp only [Bool.and_eq_true] at h
    obtain ⟨⟨⟨h1, h2⟩, h3⟩, h4⟩ := h
    cases a; cases b
    rw [AVal.ptr.injEq, AAddr.mk.injEq]
    exact ⟨Nat.eq_of_beq_eq_true h1, Nat.eq_of_beq_eq_true h2, Nat.eq_of_beq_eq_true h3, Nat.eq_of_beq_eq_true h4⟩
  · rfl
  · rename_i a s l c e b s' l' c' e'
    simp only [Bool.and_eq_true] at h
    obtain ⟨⟨⟨⟨⟨⟨⟨h1, h2⟩, h3⟩, h4⟩, h5⟩, h6⟩, h7⟩, h8⟩ := h
    cases a; cases b
    rw [AVal.slice.injEq, AAddr.mk.injEq]
    exact ⟨⟨Nat.eq_of_beq_eq_true h1, Nat.eq_of_beq_eq_true h2, Nat.eq_of_beq_eq_true h3, Nat.eq_of_beq_eq_true h4⟩, Nat.eq_of_beq_eq_true h5, Nat.eq_of_beq_eq_true h6, Nat.eq_of_beq_eq_true h7, by simpa using h8⟩
  · rfl
  · rfl
  · rw [Nat.eq_of_beq_eq_true h]
  · rfl
  · rfl
  · rw [Nat.eq_of_beq_eq_true h]
  · rfl
  · cases h

theorem all2_eq : ∀ (as bs : List AVal), all2 AVal.beq0 as bs = true → as = bs
  | [], [], _ => rfl
  | a :: as, b :: bs, h => by
    simp only [all2, Bool.and_eq_true] at h
    rw [beq0_eq h.1, all2_eq as bs h.2]
  | [], _ :: _, h => by cases h
  | _ :: _, [], h => by cases h

theorem beq_eq {a b : AVal} (h : AVal.beq a b = true) : a = b := by
  unfold AVal.beq at h
  split at h
  · rw [all2_eq _ _ h]
  · rw [all2_eq _ _ h]
  · exact beq0_eq h

/-- More lies in the second memory, and all of the first. -/
def Sub (M M' : Mem) : Prop := ∀ id b, M.get id = some b → M'.get id = some b

theorem Sub.refl (M : Mem) : Sub M M := fun _ _ h => h
theorem Sub.trans {M M1 M2 : Mem} (h : Sub M M1) (h' : Sub M1 M2) : Sub M M2 := fun id b x => h' id b (h id b x)

section
variable {P : Program} {e : Env} {M M' : Mem} {o : Oper} {v : AVal}

theorem loadCells_sub {M2 : Mem} (h2 : Sub M M2) {a : AAddr} {n : Nat} {vs : List AVal} (h : loadCells M a n = some vs) : loadCells M2 a n = some vs := by
  unfold loadCells at h ⊢
  cases hg : M.get a.id with
  | none => rw [hg] at h; cases h
  | some b => rw [hg] at h; rw [h2 _ _ hg]; exact h

theorem entriesOf_sub {M2 : Mem} (h2 : Sub M M2) {id : Nat} {es : List (AVal × AVal)} (h : entriesOf M id = some es) : entriesOf M2 id = some es := by
  unfold entriesOf at h ⊢
  cases hg : M.get id with
  | none => rw [hg] at h; cases h
  | some b => rw [hg] at h; rw [h2 _ _ hg]; exact h

theorem loadVar_sub {M2 : Mem} (h2 : Sub M M2) {t : TypeId} {a : AAddr} {v : AVal} (h : loadVar P M t a = some v) : loadVar P M2 t a = some v := by
  unfold loadVar at h ⊢
  split at h
  · split at h
    · simp only [Option.map_eq_some_iff] at h ⊢
      obtain ⟨cs, h1, h3⟩ := h
      exact ⟨cs, loadCells_sub h2 h1, h3⟩
    · cases h
  · split at h
    · rename_i heq
      rw [loadCells_sub h2 heq]
      exact h
    · cases h
  · cases h

theorem lenV_sub {M2 : Mem} (h2 : Sub M M2) {t : Option TypeDesc} {x v : AVal} (h : lenV P M t x = some v) : lenV P M2 t x = some v := by
  unfold lenV at h ⊢
  split at h
  · exact h
  · exact h
  · exact h
  · exact h
  · split at h
    · exact h
    · simp only [Option.map_eq_some_iff] at h ⊢
      obtain ⟨es, h1, h3⟩ := h
      exact ⟨es, entriesOf_sub h2 h1, h3⟩
    · cases h
  · cases h

theorem ofOpt_both {x : Option AVal} (h : OpR.ofOpt M x = .val v M') : M' = M ∧ ∀ M2, OpR.ofOpt M2 x = .val v M2 := by
  obtain ⟨h1, h2⟩ := OpR.ofOpt_inv h
  refine ⟨?_, fun M2 => by rw [h1]; rfl⟩
  cases x with
  | none => cases h
  | some u => cases h; rfl

theorem agg_both {x : Option (List AVal)} (h : evAgg M x = .val v M') : M' = M ∧ ∀ M2, evAgg M2 x = .val v M2 := by
  cases x with
  | none => cases h
  | some u => cases h; exact ⟨rfl, fun _ => rfl⟩

theorem kind_noCall (hk : kindOf P o ≠ .act) {f : FuncId} {args : List AVal} : evOp P e M o ≠ .call f args := by
  intro h
  obtain ⟨c, ho, h⟩ := evOp_onlyCalls h
  unfold kindOf at hk
  rw [ho] at hk
  obtain ⟨callee, as, ats⟩ := c
  cases callee with
  | builtin b => exact builtin_noCall h
  | value g => exact hk rfl
  | invoke r m => exact hk rfl

/-- What needs no memory. -/
theorem kind_pure (hk : kindOf P o = .pure) (h : evOp P e M o = .val v M') : M' = M ∧ ∀ M2, evOp P e M2 o = .val v M2 := by
  unfold evOp at h ⊢
  unfold kindOf at hk
  cases ho : o.op <;> rw [ho] at h hk <;> simp only at hk h ⊢ <;> try (cases hk; done)
  case move => cases h; exact ⟨rfl, fun _ => rfl⟩
  case assign => cases h; exact ⟨rfl, fun _ => rfl⟩
  case pick c a b =>
    unfold evPick at h ⊢
    split at h
    · cases h; exact ⟨rfl, fun _ => rfl⟩
    · cases h; exact ⟨rfl, fun _ => rfl⟩
    · cases h
  case build t ps =>
    unfold evBuild at h ⊢
    cases hz : zero? P t with
    | none => rw [hz] at h; cases h
    | some z =>
      rw [hz] at h
      simp only at h ⊢
      unfold evBuildZ at h ⊢
      cases hs : (ofVal z).solid with
      | false => rw [hs] at h; cases h
      | true =>
        rw [hs] at h
        simp only at h ⊢
        cases hu : P.underlying t with
        | none => rw [hu] at h; cases h
        | some d =>
          rw [hu] at h
          cases d <;> simp only at h ⊢ <;> try (cases h; done)
          case struct fs =>
            cases hf : fieldPlaces P fs with
            | none => rw [hf] at h; cases h
            | some l => rw [hf] at h; exact agg_both h
          case array n et =>
            cases hf : size? P et with
            | none => rw [hf] at h; cases h
            | some l => rw [hf] at h; exact agg_both h
  case nilCheck x =>
    unfold evNilCheck at h ⊢
    cases hn : isNilable (evalO e x) with
    | false => rw [hn] at h; cases h
    | true => rw [hn] at h; cases h; exact ⟨rfl, fun _ => rfl⟩
  case binOp op t x y t' => exact ofOpt_both h
  case unOp op t x => exact ofOpt_both h
  case makeInterface t x =>
    unfold evIface at h ⊢
    cases hu : P.underlying t with
    | none => rw [hu] at h; cases h
    | some d => rw [hu] at h; cases d <;> simp only at h ⊢ <;> cases h <;> exact ⟨rfl, fun _ => rfl⟩
  case makeFunc fn a b =>
    unfold evFunc at h ⊢
    split at h
    · cases h; exact ⟨rfl, fun _ => rfl⟩
    · cases h
  case slice t x lo hi mx =>
    unfold evSlice at h ⊢
    generalize evalO e x = xv at h ⊢
    generalize lo.map (evalO e) = lv at h ⊢
    generalize hi.map (evalO e) = hv at h ⊢
    generalize mx.map (evalO e) = mv at h ⊢
    cases xv <;> simp only at h ⊢ <;> try (cases h; done)
    case str s =>
      cases mv <;> simp only at h ⊢ <;> try (cases h; done)
      split at h
      · split at h
        · split at h
          · cases h; exact ⟨rfl, fun _ => rfl⟩
          · cases h
        · cases h
      · cases h
    case slice a sz len cap ex =>
      split at h
      · split at h
        · exact ofOpt_both h
        · cases h
      · cases h
    case nilSlice =>
      split at h
      · cases mv <;> simp only at h ⊢ <;> try (cases h; done)
        split at h
        · cases h; exact ⟨rfl, fun _ => rfl⟩
        · cases h
      · cases h
    case ptr a =>
      split at h
      · split at h
        · split at h
          · exact ofOpt_both h
          · cases h
        · cases h
      · cases h
  case fieldAddr t x i =>
    unfold evFieldAddr at h ⊢
    generalize evalO e x = xv at h ⊢
    cases xv <;> simp only at h ⊢ <;> try (cases h; done)
    split at h
    · split at h
      · cases h; exact ⟨rfl, fun _ => rfl⟩
      · cases h
    · cases h
  case field t x i =>
    unfold evField at h ⊢
    generalize evalO e x = xv at h ⊢
    cases xv <;> simp only at h ⊢ <;> try (cases h; done)
    split at h
    · exact ofOpt_both h
    · cases h
  case indexAddr t x i =>
    unfold evIndexAddr at h ⊢
    generalize evalO e x = xv at h ⊢
    cases xv <;> simp only at h ⊢ <;> try (cases h; done)
    case slice a sz len cap ex =>
      split at h
      · split at h
        · split at h
          · split at h
            · cases h; exact ⟨rfl, fun _ => rfl⟩
            · cases h
          · cases h
        · cases h
      · cases h
    case ptr a =>
      split at h
      · split at h
        · split at h
          · cases h; exact ⟨rfl, fun _ => rfl⟩
          · cases h
        · cases h
      · cases h
  case index t x i =>
    unfold evIndex at h ⊢
    generalize evalO e x = xv at h ⊢
    generalize evalO e i = iv at h ⊢
    split at h
    · cases xv <;> simp only at h ⊢ <;> try (cases h; done)
      · split at h
        · exact ofOpt_both h
        · cases h
      · split at h
        · split at h
          · exact ofOpt_both h
          · cases h
        · cases h
    · cases h
  case extract x i =>
    unfold evExtract at h ⊢
    generalize evalO e x = xv at h ⊢
    cases xv <;> simp only at h ⊢ <;> try (cases h; done)
    exact ofOpt_both h
  case convert s d x =>
    have hd : ∃ k, P.underlying d = some (.int k) := by
      split at hk
      · exact ⟨_, by assumption⟩
      · cases hk
      · cases hk
    obtain ⟨k, hd⟩ := hd
    unfold evConvert at h ⊢
    cases hs : P.underlying s with
    | none => rw [hs] at h; cases h
    | some sd =>
      rw [hs] at h
      simp only [hd] at h ⊢
      generalize evalO e x = xv at h ⊢
      cases xv <;> simp only at h ⊢ <;> cases h
      exact ⟨rfl, fun _ => rfl⟩
  case call c =>
    obtain ⟨callee, as, ats⟩ := c
    cases callee with
    | value g => cases hk
    | invoke r m => cases hk
    | builtin b =>
      simp only [evCallOp] at h ⊢
      generalize as.toList.map (evalO e) = l at h ⊢
      cases b <;> simp only at hk <;> try (cases hk; done)
      case cap =>
        unfold builtin at h ⊢
        match l, h with
        | [x], h => exact ofOpt_both h
        | [], h => cases h
        | _ :: _ :: _, h => cases h
      case min =>
        unfold builtin at h ⊢
        match l, h with
        | .int k x :: rest, h => exact ofOpt_both h
        | [], h => cases h
        | .undef :: _, h | .bool _ :: _, h | .str _ :: _, h | .ptr _ :: _, h | .nilPtr :: _, h | .slice .. :: _, h | .nilSlice :: _, h | .emptySl :: _, h | .map _ :: _, h | .nilMap :: _, h | .func _ _ :: _, h | .nilFunc :: _, h | .iface _ _ :: _, h | .nilIface :: _, h | .agg _ :: _, h | .tuple _ :: _, h => cases h
      case max =>
        unfold builtin at h ⊢
        match l, h with
        | .int k x :: rest, h => exact ofOpt_both h
        | [], h => cases h
        | .undef :: _, h | .bool _ :: _, h | .str _ :: _, h | .ptr _ :: _, h | .nilPtr :: _, h | .slice .. :: _, h | .nilSlice :: _, h | .emptySl :: _, h | .map _ :: _, h | .nilMap :: _, h | .func _ _ :: _, h | .nilFunc :: _, h | .iface _ _ :: _, h | .nilIface :: _, h | .agg _ :: _, h | .tuple _ :: _, h => cases h

/-- What looks at memory. -/
theorem kind_read (hk : kindOf P o = .read) (h : evOp P e M o = .val v M') : M' = M ∧ ∀ M2, Sub M M2 → evOp P e M2 o = .val v M2 := by
  unfold evOp at h ⊢
  unfold kindOf at hk
  cases ho : o.op <;> rw [ho] at h hk <;> simp only at hk h ⊢ <;> try (cases hk; done)
  case load t x =>
    unfold evLoad at h ⊢
    generalize evalO e x = xv at h ⊢
    cases xv <;> simp only at h ⊢ <;> try (cases h; done)
    obtain ⟨h1, h2⟩ := OpR.ofOpt_inv h
    refine ⟨(ofOpt_both h).1, fun M2 hs => ?_⟩
    rw [loadVar_sub hs h1]; rfl
  case lookup t x k ok =>
    unfold evLookup at h ⊢
    cases hm : mapTypes P t with
    | none => rw [hm] at h; cases h
    | some p =>
      obtain ⟨kt, et⟩ := p
      rw [hm] at h
      simp only at h ⊢
      cases hp : plainType P kt with
      | false => rw [hp] at h; cases h
      | true =>
        rw [hp] at h
        simp only at h ⊢
        cases hz : zero? P et with
        | none => rw [hz] at h; cases h
        | some z =>
          rw [hz] at h
          simp only at h ⊢
          unfold evLookupZ at h ⊢
          have hfound : ∀ {r : Option (Option AVal)}, evFound M (ofVal z) ok r = .val v M' → M' = M ∧ r ≠ none ∧ ∀ M2, evFound M2 (ofVal z) ok r = .val v M2 := by
            intro r hr
            unfold evFound at hr ⊢
            split at hr
            · cases hr; exact ⟨rfl, (fun h => by cases h), fun _ => rfl⟩
            · cases hr; exact ⟨rfl, (fun h => by cases h), fun _ => rfl⟩
            · cases hr
          generalize evalO e x = xv at h ⊢
          cases xv <;> simp only at h ⊢ <;> try (cases h; done)
          case nilMap => exact ⟨(hfound h).1, fun M2 _ => (hfound h).2.2 M2⟩
          case map id =>
            refine ⟨(hfound h).1, fun M2 hs => ?_⟩
            have := (hfound h).2.1
            cases he : entriesOf M id with
            | none => rw [he] at this; exact absurd rfl this
            | some es =>
              rw [entriesOf_sub hs he]
              have h2 := (hfound h).2.2 M2
              rw [he] at h2
              exact h2
  case convert s d x =>
    have hd : P.underlying d = some .string := by
      split at hk
      · cases hk
      · assumption
      · cases hk
    unfold evConvert at h ⊢
    cases hs : P.underlying s with
    | none => rw [hs] at h; cases h
    | some sd =>
      rw [hs] at h
      simp only [hd] at h ⊢
      unfold evToString at h ⊢
      generalize evalO e x = xv at h ⊢
      split at h
      · cases h; exact ⟨rfl, fun _ _ => rfl⟩
      · split at h
        · split at h
          · split at h
            · cases h; exact ⟨rfl, fun _ _ => rfl⟩
            · split at h
              · unfold evBytes at h ⊢
                split at h
                · rename_i hl
                  refine ⟨(ofOpt_both h).1, fun M2 hs => ?_⟩
                  rw [loadCells_sub hs hl]
                  exact (ofOpt_both h).2 M2
                · cases h
              · cases h
            · cases h
          · cases h
        · cases h
  case call c =>
    obtain ⟨callee, as, ats⟩ := c
    cases callee with
    | value g => cases hk
    | invoke r m => cases hk
    | builtin b =>
      simp only [evCallOp] at h ⊢
      generalize as.toList.map (evalO e) = l at h ⊢
      cases b <;> simp only at hk <;> try (cases hk; done)
      case len =>
        unfold builtin at h ⊢
        match l, h with
        | [x], h =>
          simp only at h ⊢
          obtain ⟨h1, h2⟩ := OpR.ofOpt_inv h
          refine ⟨(ofOpt_both h).1, fun M2 hs => ?_⟩
          rw [lenV_sub hs h1]; rfl
        | [], h => cases h
        | _ :: _ :: _, h => cases h

/-- What lays a block. -/
theorem kind_alloc (hk : kindOf P o = .alloc) (h : evOp P e M o = .val v M') : ∃ hd b, Lays P e o hd b := by
  have h0 := h
  unfold evOp at h
  unfold kindOf at hk
  cases ho : o.op <;> rw [ho] at h hk <;> simp only at hk h <;> try (cases hk; done)
  case alloc t =>
    have hs : (zero P t).solid = true := by
      cases hz : (zero P t).solid with
      | true => rfl
      | false => simp [evNew, hz] at h
    exact ⟨_, _, lays_alloc ho hs⟩
  case box t x =>
    have hs : (evalO e x).solid = true := by
      cases hz : (evalO e x).solid with
      | true => rfl
      | false => simp [evNew, hz] at h
    exact ⟨_, _, lays_box ho hs⟩
  case buildSlice t n ps => exact lays_buildSlice ho h0
  case makeMap t r => exact lays_makeMap ho h0
  case makeSlice t l c => exact lays_makeSlice ho h0
  case convert s d x =>
    by_cases hd : ∃ et, P.underlying d = some (.slice et)
    · obtain ⟨et, hd⟩ := hd
      exact lays_bytes ho hd h0
    · exfalso
      unfold evConvert at h
      cases hs : P.underlying s with
      | none => rw [hs] at h; cases h
      | some sd =>
        rw [hs] at h
        simp only at h
        split at hk
        · cases hk
        · cases hk
        · rename_i h1 h2
          split at h
          · rename_i heq; exact h1 _ heq
          · rename_i heq; exact h2 heq
          · rename_i heq; exact hd ⟨_, heq⟩
          · cases h
  case call c =>
    obtain ⟨callee, as, ats⟩ := c
    cases callee with
    | value g => cases hk
    | invoke r m => cases hk
    | builtin b => cases b <;> cases hk

end
end Go.VE
