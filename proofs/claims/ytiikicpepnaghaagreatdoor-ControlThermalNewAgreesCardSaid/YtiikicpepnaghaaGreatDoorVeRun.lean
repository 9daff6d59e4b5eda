/-
  The abstract evaluator: a drawn region's run, laid out, and what is asked of the region.
-/
import Derived.Test.YtiikicpepnaghaaGreatDoorVeKind
namespace Go.VE

/-! What the check says -/

theorem orBits_test (acc : List Nat) : ∀ (es : List Edge) (j : Nat), (orBits acc es).testBit j = true →
    ∃ e ∈ es, Region.binds .any e = true ∧ (e.on = j ∨ (acc.getD e.on 0).testBit j = true)
  | [], j, h => by simp [orBits] at h
  | e :: es, j, h => by
    simp only [orBits] at h
    cases hb : Region.binds .any e with
    | false =>
      rw [hb] at h
      obtain ⟨e', h1, h2⟩ := orBits_test acc es j h
      exact ⟨e', List.mem_cons_of_mem _ h1, h2⟩
    | true =>
      rw [hb] at h
      simp only [Nat.testBit_or, Bool.or_eq_true] at h
      rcases h with (h | h) | h
      · obtain ⟨e', h1, h2⟩ := orBits_test acc es j h
        exact ⟨e', List.mem_cons_of_mem _ h1, h2⟩
      · rw [Nat.testBit_two_pow] at h
        exact ⟨e, List.mem_cons_self, hb, .inl (by simpa using h)⟩
      · exact ⟨e, List.mem_cons_self, hb, .inr h⟩

structure Stat (P : Program) (ops : Array Oper) (bits l : List Nat) : Prop where
  nodup : ∀ (k k' : Nat) (i : Nat), l[k]? = some i → l[k']? = some i → k = k'
  cover : ∀ i, i < ops.size → ∃ k : Nat, l[k]? = some i
  oper : ∀ (k i : Nat), l[k]? = some i → ∃ o, ops[i]? = some o
  edge : ∀ (k i : Nat) (o : Oper), l[k]? = some i → ops[i]? = some o → ∀ e ∈ o.after, Region.binds .any e = true → ∃ k', k' < k ∧ l[k']? = some e.on
  acts : ∀ (k i k' j : Nat) (o : Oper), k' < k → l[k]? = some i → l[k']? = some j → ops[j]? = some o → kindOf P o = .act → bitAt bits i j = true
  bit : ∀ (i : Nat) (o : Oper), ops[i]? = some o → bits.getD i 0 = orBits bits o.after.toList
  slots : ∀ (i j : Nat) (a b : Oper) (t : Tmp), i ≠ j → ops[i]? = some a → ops[j]? = some b → a.dst = some t → b.dst ≠ some t ∧ (t ∈ b.looksAt ops → bitAt bits i j = true ∨ bitAt bits j i = true)

theorem ordOk_spec {P : Program} {ops : Array Oper} {bits : List Nat} : ∀ (l done : List Nat), ordOk P ops bits done l = true →
    (∀ (k i : Nat), l[k]? = some i → ∃ o, ops[i]? = some o ∧ i ∉ done ∧ (∀ k', k' < k → l[k']? ≠ some i) ∧
      (∀ e ∈ o.after, Region.binds .any e = true → e.on ∈ done ∨ ∃ k', k' < k ∧ l[k']? = some e.on) ∧
      (∀ j p, (j ∈ done ∨ ∃ k', k' < k ∧ l[k']? = some j) → ops[j]? = some p → kindOf P p = .act → bitAt bits i j = true))
  | [], _, _, k, i, h => by simp at h
  | i0 :: l, done, h, k, i, hk => by
    simp only [ordOk] at h
    cases ho : ops[i0]? with
    | none => rw [ho] at h; cases h
    | some o =>
      rw [ho] at h
      simp only [Bool.and_eq_true] at h
      obtain ⟨⟨⟨h1, h2⟩, h3⟩, h4⟩ := h
      cases k with
      | zero =>
        simp at hk; subst hk
        refine ⟨o, ho, by simpa using h3, fun k' hk' => by omega, ?_, ?_⟩
        · intro e he hb
          rw [Array.all_toList, Array.all_eq_true_iff_forall_mem] at h1
          have := h1 e he
          simp only [hb, Bool.not_true, Bool.false_or] at this
          exact .inl (by simpa using this)
        · intro j p hj hp hact
          rcases hj with hj | ⟨k', hk', _⟩
          · rw [List.all_eq_true] at h2
            have := h2 j hj
            rw [hp] at this
            simpa [hact] using this
          · omega
      | succ k =>
        rw [List.getElem?_cons_succ] at hk
        obtain ⟨o', g1, g2, g3, g4, g5⟩ := ordOk_spec l (i0 :: done) h4 k i hk
        refine ⟨o', g1, fun hh => g2 (List.mem_cons_of_mem _ hh), ?_, ?_, ?_⟩
        · intro k' hk' heq
          cases k' with
          | zero => simp at heq; subst heq; exact g2 List.mem_cons_self
          | succ k' => exact g3 k' (by omega) (by simpa using heq)
        · intro e he hb
          rcases g4 e he hb with hh | ⟨k', hk', hh⟩
          · rcases List.mem_cons.1 hh with rfl | hh
            · exact .inr ⟨0, by omega, rfl⟩
            · exact .inl hh
          · exact .inr ⟨k' + 1, by omega, by simpa using hh⟩
        · intro j p hj hp hact
          refine g5 j p ?_ hp hact
          rcases hj with hj | ⟨k', hk', hj⟩
          · exact .inl (List.mem_cons_of_mem _ hj)
          · cases k' with
            | zero => simp at hj; subst hj; exact .inl List.mem_cons_self
            | succ k' => exact .inr ⟨k', by omega, by simpa using hj⟩

theorem stat_of_drawOk {P : Program} {ops : Array Oper} (h : drawOk P ops = true) : Stat P ops (bitsOf ops) (orderOf P ops) ∧ (orderOf P ops).length = ops.size := by
  unfold drawOk at h
  simp only [Bool.and_eq_true] at h
  obtain ⟨⟨⟨⟨h1, h2⟩, h3⟩, h4⟩, h5⟩ := h
  have hs := ordOk_spec _ _ h2
  refine ⟨⟨?_, ?_, ?_, ?_, ?_, ?_, ?_⟩, Nat.eq_of_beq_eq_true h1⟩
  · intro k k' i hk hk'
    obtain ⟨_, _, _, a, _⟩ := hs k i hk
    obtain ⟨_, _, _, b, _⟩ := hs k' i hk'
    rcases Nat.lt_trichotomy k k' with h | h | h
    · exact absurd hk (b k h)
    · exact h
    · exact absurd hk' (a k' h)
  · intro i hi
    rw [List.all_eq_true] at h3
    have := h3 i (List.mem_range.2 hi)
    have hm : i ∈ orderOf P ops := by simpa using this
    exact List.getElem?_of_mem hm
  · intro k i hk
    obtain ⟨o, ho, _⟩ := hs k i hk
    exact ⟨o, ho⟩
  · intro k i o hk ho e he hb
    obtain ⟨o', ho', _, _, g, _⟩ := hs k i hk
    rw [ho] at ho'; cases ho'
    rcases g e he hb with hh | hh
    · simp at hh
    · exact hh
  · intro k i k' j o hlt hk hk' ho hact
    obtain ⟨o', ho', _, _, _, g⟩ := hs k i hk
    exact g j o (.inr ⟨k', hlt, hk'⟩) ho hact
  · intro i o ho
    unfold bitsOk at h4
    rw [List.all_eq_true] at h4
    have := h4 i (List.mem_range.2 (Array.getElem?_eq_some_iff.1 ho).1)
    rw [ho] at this
    exact Nat.eq_of_beq_eq_true this
  · intro i j a b t hne ha hb hd
    unfold slotsOk at h5
    rw [List.all_eq_true] at h5
    have h6 := h5 i (List.mem_range.2 (Array.getElem?_eq_some_iff.1 ha).1)
    rw [List.all_eq_true] at h6
    have h7 := h6 j (List.mem_range.2 (Array.getElem?_eq_some_iff.1 hb).1)
    rw [ha, hb] at h7
    have hbe : Nat.beq i j = false := by
      cases hq : Nat.beq i j with
      | false => rfl
      | true => exact absurd (Nat.eq_of_beq_eq_true hq) hne
    rw [hbe] at h7
    simp only [Bool.false_or, hd, Bool.and_eq_true, Bool.or_eq_true, Bool.not_eq_true', bne_iff_ne] at h7
    refine ⟨h7.1, fun hm => ?_⟩
    rcases h7.2 with (h | h) | h
    · have : (Oper.looksAt ops b).contains t = true := by simpa using hm
      rw [this] at h; cases h
    · exact .inl h
    · exact .inr h

/-! The run -/

section
variable {P : Program} {call : Caller} {ops : Array Oper} {bits : List Nat}

def Carried (P : Program) (call : Caller) (E : Env) (S : Mem) (o : Oper) (v : AVal) (S' : Mem) : Prop :=
  evOp P E S o = .val v S' ∨ ∃ f args, evOp P E S o = .call f args ∧ call f args S = some (v, S')

def StepOk (P : Program) (call : Caller) (ops : Array Oper) (E : Env) (S : Mem) (o : Oper) (v : AVal) (S' : Mem) : Prop :=
  (guardB ops E o.guard = some false ∧ v = skipVal ∧ S' = S) ∨ (guardB ops E o.guard = some true ∧ Carried P call E S o v S')

structure Run (P : Program) (call : Caller) (ops : Array Oper) (bits l : List Nat) (E : Nat → Env) (S : Nat → Mem) (V : Nat → AVal) : Prop where
  step : ∀ (k i : Nat), l[k]? = some i → ∃ o, ops[i]? = some o ∧ E (k + 1) = (E k).put o.dst (V k) ∧ StepOk P call ops (E k) (S k) o (V k) (S (k + 1))
  still : ∀ (k q i j : Nat) (o o' : Oper), k < q → l[k]? = some i → l[q]? = some j → ops[i]? = some o → ops[j]? = some o' → kindOf P o = .read → guardB ops (E k) o.guard = some true → kindOf P o' = .act → guardB ops (E q) o'.guard = some true →
    (bits.getD j 0).testBit i = true ∨ sameVal (V k) (evOp P (E k) (S (q + 1)) o) = true

/-- Values in turn, the first ahead. -/
def ahead {α : Type} (a : α) (f : Nat → α) : Nat → α
  | 0 => a
  | n + 1 => f n

def SeenOk (P : Program) (ops : Array Oper) (bits l : List Nat) (E : Nat → Env) (S : Nat → Mem) (s : Seen) : Prop :=
  ∀ (q j : Nat) (o' : Oper), l[q]? = some j → ops[j]? = some o' → kindOf P o' = .act → guardB ops (E q) o'.guard = some true → (bits.getD j 0).testBit s.i = true ∨ sameVal s.v (evOp P s.e (S (q + 1)) s.o) = true

theorem stillB_spec {M : Mem} {b : Nat} : ∀ {rs : List Seen}, stillB P M b rs = true → ∀ s ∈ rs, b.testBit s.i = true ∨ sameVal s.v (evOp P s.e M s.o) = true
  | [], _, s, hs => by cases hs
  | s0 :: rs, h, s, hs => by
    unfold stillB at h
    split at h
    · rename_i hb
      rcases List.mem_cons.1 hs with rfl | hs
      · simpa using hb
      · exact stillB_spec h s hs
    · cases h

theorem onOp_inv {M : Mem} {k : AVal → Mem → Out} {x : OpR} {r : Out} (h : onOp call M k x = r) (hnf : r ≠ .fail) :
    ∃ v M', (x = .val v M' ∨ ∃ f args, x = .call f args ∧ call f args M = some (v, M')) ∧ k v M' = r := by
  cases x with
  | val v M' => exact ⟨v, M', .inl rfl, h⟩
  | call f args =>
    replace h : onCall k (call f args M) = r := h
    cases hc : call f args M with
    | none => rw [hc] at h; exact absurd h.symm hnf
    | some q => obtain ⟨v, M'⟩ := q; rw [hc] at h; exact ⟨v, M', .inr ⟨f, args, rfl, hc⟩, h⟩
  | fail => exact absurd h.symm hnf

theorem evDraw_cons (i : Nat) (l : List Nat) (rs : List Seen) (e : Env) (M : Mem) :
    evDraw P call ops bits (i :: l) rs e M = Option.casesOn (motive := fun _ => Out) ops[i]? .fail (fun o => stepDraw P call ops bits i o (evDraw P call ops bits l) rs e M) := rfl

theorem run_of_draw : ∀ (l : List Nat) (rs : List Seen) (e : Env) (M : Mem) (r : Out), evDraw P call ops bits l rs e M = r → r ≠ .fail →
    ∃ E S V, E 0 = e ∧ S 0 = M ∧ r = .normal (E l.length) (S l.length) ∧ Run P call ops bits l E S V ∧ ∀ s ∈ rs, SeenOk P ops bits l E S s
  | [], rs, e, M, r, h, _ => by
    refine ⟨fun _ => e, fun _ => M, fun _ => .undef, rfl, rfl, h.symm, ⟨fun k i hk => by simp at hk, fun k q i j o o' _ hk => by simp at hk⟩, fun s _ q j o' hq => by simp at hq⟩
  | i :: l, rs, e, M, r, h, hnf => by
    rw [evDraw_cons] at h
    cases ho : ops[i]? with
    | none => rw [ho] at h; exact absurd h.symm hnf
    | some o =>
      rw [ho] at h
      replace h : stepDraw P call ops bits i o (evDraw P call ops bits l) rs e M = r := h
      unfold stepDraw at h
      -- what is common to all cases
      have key : ∀ (rs' : List Seen) (v : AVal) (M' : Mem), evDraw P call ops bits l rs' (e.put o.dst v) M' = r → StepOk P call ops e M o v M' →
          (∀ s ∈ rs, s ∈ rs') → (∀ s ∈ rs, kindOf P o = .act → guardB ops e o.guard = some true → (bits.getD i 0).testBit s.i = true ∨ sameVal s.v (evOp P s.e M' s.o) = true) →
          (kindOf P o = .read → guardB ops e o.guard = some true → (⟨i, o, e, v⟩ : Seen) ∈ rs') →
          ∃ E S V, E 0 = e ∧ S 0 = M ∧ r = .normal (E (l.length + 1)) (S (l.length + 1)) ∧ Run P call ops bits (i :: l) E S V ∧ ∀ s ∈ rs, SeenOk P ops bits (i :: l) E S s := by
        intro rs' v M' hr hst hsub hact hread
        obtain ⟨E, S, V, h1, h2, h3, h4, h5⟩ := run_of_draw l rs' _ _ r hr hnf
        refine ⟨ahead e E, ahead M S, ahead v V, rfl, rfl, h3, ⟨?_, ?_⟩, ?_⟩
        · intro k i' hk
          cases k with
          | zero =>
            simp at hk; subst hk
            exact ⟨o, ho, h1, by show StepOk P call ops e M o v (S 0); rw [h2]; exact hst⟩
          | succ k => exact h4.step k i' (by simpa using hk)
        · intro k q i' j a b hkq hk hq ha hb hka hga hkb hgb
          cases q with
          | zero => omega
          | succ q =>
            cases k with
            | zero =>
              simp at hk; subst hk
              rw [ho] at ha; cases ha
              exact h5 _ (hread hka hga) q j b (by simpa using hq) hb hkb hgb
            | succ k => exact h4.still k q i' j a b (by omega) (by simpa using hk) (by simpa using hq) ha hb hka hga hkb hgb
        · intro s hs q j b hq hb hkb hgb
          cases q with
          | zero =>
            simp at hq; subst hq
            rw [ho] at hb; cases hb
            show _ ∨ sameVal s.v (evOp P s.e (S 0) s.o) = true
            rw [h2]
            exact hact s hs hkb hgb
          | succ q => exact h5 s (hsub s hs) q j b (by simpa using hq) hb hkb hgb
      cases hg : guardB ops e o.guard with
      | none => rw [hg] at h; exact absurd h.symm hnf
      | some b =>
        rw [hg] at h
        cases b with
        | false =>
          exact key rs skipVal M h (.inl ⟨hg, rfl, rfl⟩) (fun s hs => hs) (fun s _ _ h => by rw [hg] at h; cases h) (fun _ h => by rw [hg] at h; cases h)
        | true =>
          replace h : onOp call M (fun v M' => match kindOf P o with
            | .act => onStill (stillB P M' (bits.getD i 0) rs) (evDraw P call ops bits l rs (e.put o.dst v) M')
            | .read => evDraw P call ops bits l (⟨i, o, e, v⟩ :: rs) (e.put o.dst v) M'
            | _ => evDraw P call ops bits l rs (e.put o.dst v) M') (evOp P e M o) = r := h
          obtain ⟨v, M', hc, hr⟩ := onOp_inv h hnf
          have hst : StepOk P call ops e M o v M' := .inr ⟨hg, hc⟩
          cases hk : kindOf P o with
          | act =>
            simp only [hk] at hr
            cases hsb : stillB P M' (bits.getD i 0) rs with
            | false => rw [hsb] at hr; exact absurd hr.symm hnf
            | true =>
              rw [hsb] at hr
              exact key rs v M' hr hst (fun s hs => hs) (fun s hs _ _ => stillB_spec hsb s hs) (fun h => by rw [hk] at h; cases h)
          | read =>
            simp only [hk] at hr
            exact key _ v M' hr hst (fun s hs => List.mem_cons_of_mem _ hs) (fun s _ h => by rw [hk] at h; cases h) (fun _ _ => List.mem_cons_self)
          | pure =>
            simp only [hk] at hr
            exact key rs v M' hr hst (fun s hs => hs) (fun s _ h => by rw [hk] at h; cases h) (fun h => by rw [hk] at h; cases h)
          | alloc =>
            simp only [hk] at hr
            exact key rs v M' hr hst (fun s hs => hs) (fun s _ h => by rw [hk] at h; cases h) (fun h => by rw [hk] at h; cases h)

end
end Go.VE
