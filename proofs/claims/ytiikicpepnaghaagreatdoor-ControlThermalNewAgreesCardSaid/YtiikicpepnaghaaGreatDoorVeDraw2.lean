/-
  The abstract evaluator: a region whose order is drawn answers as the run does.
-/
import Derived.Test.YtiikicpepnaghaaGreatDoorVeDraw
namespace Go.VE

section
variable {P : Program} {call : Caller} {ops : Array Oper} {bits l : List Nat} {E : Nat → Env} {S : Nat → Mem} {V : Nat → AVal}

theorem Fr.place {m0 m : Plc} {M0 M : Mem} {w0 w w' : World} (h : Fr m0 M0 w0 m M w) {id : Nat} (hid : M0.next ≤ id) (hn : ∀ e, m id e = none) {pl : Pl} {obj : Obj} (hpl : pl.blk = w.heap.size) (hw : w'.heap = w.heap.push obj)
    (ho : w'.os = w.os) (ht : w'.tape = w.tape) (hp : w'.output = w.output) : Fr m0 M0 w0 (m.add id pl) M w' where
  le := Plc.le_trans h.le (Plc.le_add hn pl)
  phantom i hi hno := by
    obtain ⟨a, b⟩ := h.phantom i hi hno
    refine ⟨fun e => ?_, b⟩
    cases hq : m.add id pl i e with
    | none => rfl
    | some q =>
      rcases Plc.add_inv hq with ⟨rfl, _, _⟩ | hq
      · omega
      · rw [a] at hq; cases hq
  next := h.next
  size := by rw [hw]; have := h.size; simp; omega
  kept β hβ hno := by
    rw [← h.kept β hβ hno, hw, Array.getElem?_push]
    have := h.size
    rw [if_neg (by omega)]
  fresh β hw' := by
    obtain ⟨i, c, q, h1, h2, h3⟩ := hw'
    rcases Plc.add_inv h2 with ⟨_, _, rfl⟩ | hq
    · right; rw [← h3, hpl]; exact h.size
    · exact h.fresh β ⟨i, c, q, h1, hq, h3⟩
  os := ho.trans h.os
  tape := ht.trans h.tape
  output := hp.trans h.output

theorem Fr.grow {m : Plc} {M : Mem} {w : World} (hm : ∀ e, m M.next e = none) (b : ABlock) : Fr m M w m (M.alloc b) w where
  le := Plc.le_refl m
  phantom id hid hn := ⟨hn, by rw [Mem.get_alloc, if_neg (by omega)]⟩
  next := Nat.le_succ _
  size := Nat.le_refl _
  kept _ _ _ := rfl
  fresh β hw := by
    obtain ⟨i, c, q, h1, h2, h3⟩ := hw
    rw [Mem.get_alloc] at h1
    split at h1
    · rename_i hi; subst hi; rw [hm] at h2; cases h2
    · exact .inl ⟨i, c, q, h1, h2, h3⟩
  os := rfl
  tape := rfl
  output := rfl

variable {m0 : Plc} {w0 : World}

/-- What a run's step does to memory when the operation does not act. -/
theorem step_mem (hr : Run P call ops bits l E S V) {k i : Nat} {o : Oper} (hk : l[k]? = some i) (ho : ops[i]? = some o) (hna : kindOf P o ≠ .act) :
    (guardB ops (E k) o.guard = some false ∧ V k = skipVal ∧ S (k + 1) = S k) ∨ (guardB ops (E k) o.guard = some true ∧ evOp P (E k) (S k) o = .val (V k) (S (k + 1))) := by
  obtain ⟨o', ho', _, h⟩ := hr.step k i hk
  rw [ho] at ho'; cases ho'
  rcases h with h | ⟨h1, h2 | ⟨f, args, h2, _⟩⟩
  · exact .inl h
  · exact .inr ⟨h1, h2⟩
  · exact absurd h2 (kind_noCall hna)

theorem sub_alloc {m : Plc} {M : Mem} {w : World} (h : MemRel m M w) (b : ABlock) : Sub M (M.alloc b) := by
  intro id b' hb
  rw [Mem.get_alloc]
  have := (h.block id b' hb).1
  rw [if_neg (by omega)]
  exact hb

/-- An operation that does not act is passed unlisted. -/
theorem InvM.pass (hr : Run P call ops bits l E S V) {listed : Array Bool} {p : Nat} {m : Plc} {w : World} (hM : InvM P ops l E S V m0 w0 listed p m w) {i : Nat} {o : Oper} (hk : l[p]? = some i) (ho : ops[i]? = some o) (hna : kindOf P o ≠ .act) :
    InvM P ops l E S V m0 w0 listed (p + 1) m w := by
  have hstep := step_mem hr hk ho hna
  -- what is common
  have key : (S (p + 1) = S p ∨ ∃ b, S (p + 1) = (S p).alloc b ∧ ∀ cs ep lo, b = .cells cs ep lo → lo ≤ ep) → (kindOf P o = .alloc → guardB ops (E p) o.guard = some true → ∃ b, S (p + 1) = (S p).alloc b) →
      (kindOf P o = .read → guardB ops (E p) o.guard = some true → evOp P (E p) (S (p + 1)) o = .val (V p) (S (p + 1))) → InvM P ops l E S V m0 w0 listed (p + 1) m w := by
    intro hS halloc hread
    have hle : (S p).next ≤ (S (p + 1)).next := by
      rcases hS with h | ⟨b, h, _⟩
      · rw [h]; exact Nat.le_refl _
      · rw [h]; exact Nat.le_succ _
    have hsub : Sub (S p) (S (p + 1)) := by
      rcases hS with h | ⟨b, h, _⟩
      · rw [h]; exact Sub.refl _
      · rw [h]; exact sub_alloc hM.mem b
    refine ⟨?_, ?_, ?_, ?_, ?_⟩
    · rcases hS with h | ⟨b, h, hlo⟩
      · rw [h]; exact hM.mem
      · rw [h]; exact hM.mem.grow b hlo
    · rcases hS with h | ⟨b, h, hlo⟩
      · rw [h]; exact hM.fr
      · rw [h]; exact hM.fr.trans (Fr.grow hM.mem.none_next b)
    · intro k k' h1 h2
      by_cases hk' : k' = p + 1
      · subst hk'
        by_cases hkk : k = p + 1
        · subst hkk; exact Nat.le_refl _
        · exact Nat.le_trans (hM.nexts k p (by omega) (Nat.le_refl _)) hle
      · exact hM.nexts k k' h1 (by omega)
    · intro k i' o' hk' ho' hka hg hlt hnl
      by_cases hkp : k = p
      · subst hkp
        rw [hk] at hk'; cases hk'
        exact ⟨fun e => hM.mem.none_next e, rfl⟩
      · obtain ⟨h1, h2⟩ := hM.phant k i' o' hk' ho' hka hg (by omega) hnl
        refine ⟨h1, ?_⟩
        rw [← h2]
        rcases hS with h | ⟨b, h, _⟩
        · rw [h]
        · rw [h, Mem.get_alloc]
          have hstep' := step_mem hr hk' ho' (by rw [hka]; intro h; cases h)
          rcases hstep' with ⟨hg', _⟩ | ⟨_, hv⟩
          · rw [hg] at hg'; cases hg'
          · obtain ⟨hd, b', hl⟩ := kind_alloc hka hv
            have : S (k + 1) = (S k).alloc b' := by
              have := hl.ev (S k)
              rw [hv] at this
              exact (OpR.val.inj this).2
            have h3 : (S (k + 1)).next = (S k).next + 1 := by rw [this]; rfl
            have h4 := hM.nexts (k + 1) p (by omega) (Nat.le_refl _)
            rw [if_neg (by omega)]
    · intro k i' o' hk' ho' hkr hg hlt hnl
      by_cases hkp : k = p
      · subst hkp
        rw [hk] at hk'; cases hk'
        rw [ho] at ho'; cases ho'
        exact hread hkr hg
      · exact (kind_read hkr (hM.reads k i' o' hk' ho' hkr hg (by omega) hnl)).2 _ hsub
  rcases hstep with ⟨hg, hv, hS⟩ | ⟨hg, hv⟩
  · exact key (.inl hS) (fun _ h => by rw [hg] at h; cases h) (fun _ h => by rw [hg] at h; cases h)
  · cases hkd : kindOf P o with
    | act => exact absurd hkd hna
    | pure =>
      obtain ⟨h1, h2⟩ := kind_pure hkd hv
      exact key (.inl h1) (fun h => by rw [hkd] at h; cases h) (fun h => by rw [hkd] at h; cases h)
    | read =>
      obtain ⟨h1, h2⟩ := kind_read hkd hv
      exact key (.inl h1) (fun h => by rw [hkd] at h; cases h) (fun _ _ => h2 _ (by rw [h1]; exact Sub.refl _))
    | alloc =>
      obtain ⟨hd, b, hl⟩ := kind_alloc hkd hv
      have : S (p + 1) = (S p).alloc b := by
        have := hl.ev (S p)
        rw [hv] at this
        exact (OpR.val.inj this).2
      exact key (.inr ⟨b, this, hl.lo⟩) (fun _ _ => ⟨b, this⟩) (fun h => by rw [hkd] at h; cases h)

theorem InvM.same {listed listed' : Array Bool} (hsub : ∀ i, Lst listed i → Lst listed' i) {p : Nat} {m m' : Plc} {w w' : World} (hM : InvM P ops l E S V m0 w0 listed p m w) (hr : Run P call ops bits l E S V) (hmem : MemRel m' (S p) w') (hf : Fr m (S p) w m' (S p) w') :
    InvM P ops l E S V m0 w0 listed' p m' w' := by
  refine ⟨hmem, hM.fr.trans hf, hM.nexts, ?_, ?_⟩
  · intro k i o hk ho hka hg hlt hnl
    obtain ⟨h1, h2⟩ := hM.phant k i o hk ho hka hg hlt (fun h => hnl (hsub i h))
    have hid : (S k).next < (S p).next := by
      rcases step_mem hr hk ho (by rw [hka]; intro h; cases h) with ⟨hg', _⟩ | ⟨_, hv⟩
      · rw [hg] at hg'; cases hg'
      · obtain ⟨hd, b', hl⟩ := kind_alloc hka hv
        have : S (k + 1) = (S k).alloc b' := by
          have := hl.ev (S k)
          rw [hv] at this
          exact (OpR.val.inj this).2
        have h3 : (S (k + 1)).next = (S k).next + 1 := by rw [this]; rfl
        have h4 := hM.nexts (k + 1) p (by omega) (Nat.le_refl _)
        omega
    exact ⟨(hf.phantom _ hid h1).1, h2⟩
  · intro k i o hk ho hkr hg hlt hnl
    exact hM.reads k i o hk ho hkr hg hlt (fun h => hnl (hsub i h))

/-- The acting operation at the head has been carried out. -/
theorem InvM.act (hr : Run P call ops bits l E S V) {listed listed' : Array Bool} (hsub : ∀ i, Lst listed i → Lst listed' i) {p : Nat} {m m' : Plc} {w w' : World} (hM : InvM P ops l E S V m0 w0 listed p m w) {i : Nat} {o : Oper} (hk : l[p]? = some i) (ho : ops[i]? = some o) (ha : kindOf P o = .act)
    (hanc : ∀ j, bitAt bits i j = true → Lst listed j)
    (hcase : (S (p + 1) = S p ∧ m' = m ∧ w' = w) ∨ guardB ops (E p) o.guard = some true) (hmem : MemRel m' (S (p + 1)) w') (hf : Fr m (S p) w m' (S (p + 1)) w') : InvM P ops l E S V m0 w0 listed' (p + 1) m' w' := by
  refine ⟨hmem, hM.fr.trans hf, ?_, ?_, ?_⟩
  · intro k k' h1 h2
    by_cases hk' : k' = p + 1
    · subst hk'
      by_cases hkk : k = p + 1
      · subst hkk; exact Nat.le_refl _
      · exact Nat.le_trans (hM.nexts k p (by omega) (Nat.le_refl _)) hf.next
    · exact hM.nexts k k' h1 (by omega)
  · intro k i' o' hk' ho' hka hg hlt hnl
    have hkp : k ≠ p := fun h => by
      subst h
      rw [hk] at hk'; cases hk'
      rw [ho] at ho'; cases ho'
      rw [ha] at hka; cases hka
    obtain ⟨h1, h2⟩ := hM.phant k i' o' hk' ho' hka hg (by omega) (fun h => hnl (hsub _ h))
    have hid : (S k).next < (S p).next := by
      rcases step_mem hr hk' ho' (by rw [hka]; intro h; cases h) with ⟨hg', _⟩ | ⟨_, hv⟩
      · rw [hg] at hg'; cases hg'
      · obtain ⟨hd, b', hl⟩ := kind_alloc hka hv
        have : S (k + 1) = (S k).alloc b' := by
          have := hl.ev (S k)
          rw [hv] at this
          exact (OpR.val.inj this).2
        have h3 : (S (k + 1)).next = (S k).next + 1 := by rw [this]; rfl
        have h4 := hM.nexts (k + 1) p (by omega) (Nat.le_refl _)
        omega
    obtain ⟨h3, h4⟩ := hf.phantom _ hid h1
    exact ⟨h3, h4.trans h2⟩
  · intro k i' o' hk' ho' hkr hg hlt hnl
    have hkp : k ≠ p := fun h => by
      subst h
      rw [hk] at hk'; cases hk'
      rw [ho] at ho'; cases ho'
      rw [ha] at hkr; cases hkr
    have hnl' : ¬ Lst listed i' := fun h => hnl (hsub _ h)
    rcases hcase with ⟨h1, _, _⟩ | hgt
    · rw [h1]; exact hM.reads k i' o' hk' ho' hkr hg (by omega) hnl'
    · rcases hr.still k p i' i o' o (by omega) hk' hk ho' ho hkr hg ha hgt with hb | hsame
      · exact absurd (hanc i' hb) hnl'
      · unfold sameVal at hsame
        split at hsame
        · rename_i u M' heq
          have h1 := (kind_read hkr heq).1
          rw [heq, beq_eq hsame, h1]
        · cases hsame

/-- The memory's end of the walk is moved on to the next acting operation. -/
theorem InvM.forward (hr : Run P call ops bits l E S V) (hs : Stat P ops bits l) {listed : Array Bool} {m : Plc} {w : World} : ∀ (n p : Nat), l.length - p = n → p ≤ l.length → InvM P ops l E S V m0 w0 listed p m w →
    ∃ p', p ≤ p' ∧ p' ≤ l.length ∧ (∀ i, l[p']? = some i → isAct P ops i) ∧ (∀ (k i : Nat), p ≤ k → k < p' → l[k]? = some i → ¬ isAct P ops i) ∧ InvM P ops l E S V m0 w0 listed p' m w := by
  intro n
  induction n with
  | zero =>
    intro p hn hp hM
    refine ⟨p, Nat.le_refl _, hp, fun i hi => ?_, fun k i h1 h2 => by omega, hM⟩
    rw [List.getElem?_eq_none (by omega)] at hi; cases hi
  | succ n ih =>
    intro p hn hp hM
    have hl : l[p]? = some (l[p]'(by omega)) := by simp
    obtain ⟨o, ho⟩ := hs.oper p _ hl
    by_cases ha : kindOf P o = .act
    · refine ⟨p, Nat.le_refl _, hp, fun i hi => ?_, fun k i h1 h2 => by omega, hM⟩
      rw [hl] at hi; cases hi
      exact ⟨o, ho, ha⟩
    · obtain ⟨p', h1, h2, h3, h4, h5⟩ := ih (p + 1) (by omega) (by omega) (hM.pass hr hl ho ha)
      refine ⟨p', by omega, h2, h3, fun k i g1 g2 g3 => ?_, h5⟩
      by_cases hkp : k = p
      · subst hkp
        rw [hl] at g3; cases g3
        rintro ⟨o', ho', ha'⟩
        rw [ho] at ho'; cases ho'
        exact ha ha'
      · exact h4 k i (by omega) g2 g3

/-- One operation carried out, as the walk has it. -/
theorem wp_of_carried (hcall : CallOk P call) {m : Plc} {e : Env} {M : Mem} {a : Act} {w : World} {o : Oper} {v : AVal} {M' : Mem} (hM : MemRel m M w) (hρ : OpsRel m e a.eval o) (hc : Carried P call e M o v M')
    (K : Act → World → Prop) (Q : Exit → Act → World → Prop) (hK : ∀ m' c w', ValRel m' v c → MemRel m' M' w' → Fr m M w m' M' w' → K (a.put o.dst c) w') : o.wp P a w K Q := by
  unfold Oper.wp
  rcases hc with hev | ⟨f, args, hev, hcl⟩
  · obtain ⟨m', nx, w', h1, h2, h3, h4⟩ := evOp_val hM hρ hev
    rw [h1]
    cases nx with
    | value c => exact hK m' c w' h2 h3 h4
    | skip =>
      have h2 : v = .tuple [] := h2
      subst h2
      exact hK m' Go.undef w' ValRel.skip h3 h4
    | _ => exact absurd h2 (by intro h; exact h)
  · obtain ⟨⟨fn, hf, hb, hn⟩, hok⟩ := hcall f args M v M' hcl
    obtain ⟨cs, h1, h2⟩ := evOp_call hρ hev hf hb hn w
    rw [h1]
    refine (hok m w cs hM h2).mono ?_
    rintro en w' ⟨m', c, rfl, h3, h4, h5⟩
    exact hK m' c w' h3 h4 h5

/-- How many are left. -/
def left (l : List Nat) (listed : Array Bool) : Nat := (l.filter fun i => !listed.getD i false).length

theorem left_set {listed : Array Bool} {i : Nat} (hi : i < listed.size) (hn : ¬ Lst listed i) : ∀ {l : List Nat}, i ∈ l → left l (listed.setIfInBounds i true) < left l listed := by
  have hmono : ∀ l : List Nat, left l (listed.setIfInBounds i true) ≤ left l listed := by
    intro l
    induction l with
    | nil => exact Nat.le_refl _
    | cons j l ih =>
      unfold left at ih ⊢
      simp only [List.filter_cons]
      by_cases hj : Lst listed j
      · have hj' : Lst (listed.setIfInBounds i true) j := (lst_set hi).2 (.inr hj)
        unfold Lst at hj hj'
        simp only [hj, hj', Bool.not_true, Bool.false_eq_true, if_false]
        exact ih
      · have : listed.getD j false = false := by simpa [Lst] using hj
        simp only [this, Bool.not_false, if_true]
        split <;> simp only [List.length_cons] <;> omega
  intro l hl
  induction l with
  | nil => cases hl
  | cons j l ih =>
    have hm := hmono l
    unfold left at ih hm ⊢
    simp only [List.filter_cons]
    by_cases hj : j = i
    · subst hj
      have h1 : (listed.setIfInBounds j true).getD j false = true := (lst_set hi).2 (.inl rfl)
      have h2 : listed.getD j false = false := by simpa [Lst] using hn
      simp only [h1, h2, Bool.not_true, Bool.not_false, Bool.false_eq_true, if_false, if_true, List.length_cons]
      omega
    · rcases List.mem_cons.1 hl with rfl | hl
      · exact absurd rfl hj
      · have := ih hl
        have he : (listed.setIfInBounds i true).getD j false = listed.getD j false := getD_set_ne false (Ne.symm hj)
        rw [he]
        cases listed.getD j false <;> simp only [Bool.not_true, Bool.not_false, if_true, Bool.false_eq_true, if_false, List.length_cons] <;> omega

/-- Where nothing is ready, all is listed. -/
theorem all_listed (hs : Stat P ops bits l) {listed : Array Bool} {p : Nat} (hL : InvL P ops l listed p) (hready : Region.ready .any ops listed = []) : ∀ (n k i : Nat), k < n → l[k]? = some i → Lst listed i := by
  intro n
  induction n with
  | zero => intro k i h; omega
  | succ n ih =>
    intro k i hlt hk
    by_cases hl : Lst listed i
    · exact hl
    · exfalso
      obtain ⟨o, ho⟩ := hs.oper k i hk
      have hi : i < ops.size := (Array.getElem?_eq_some_iff.1 ho).1
      have : i ∈ Region.ready .any ops listed := by
        rw [mem_ready]
        refine ⟨?_, o, ho, fun e he hb => ?_⟩
        · have h1 : listed.getD i false = false := by simpa [Lst] using hl
          have hsz : i < listed.size := by rw [hL.size]; exact hi
          simpa [hsz] using h1
        · obtain ⟨k', hk', hl'⟩ := hs.edge k i o hk ho e he hb
          exact ih k' e.on (by omega) hl'
      rw [hready] at this
      cases this

theorem draw_done (hs : Stat P ops bits l) (hr : Run P call ops bits l E S V) {N : Nat} {Q : Exit → Act → World → Prop} (hQ : ∀ m' a' w', St N m' (E l.length) (S l.length) a' w' → Fr m0 (S 0) w0 m' (S l.length) w' → Q .normal a' w')
    {listed : Array Bool} {p : Nat} {m : Plc} {a : Act} {w : World} (hL : InvL P ops l listed p) (hE : InvE ops l E V N listed m a) (hM : InvM P ops l E S V m0 w0 listed p m w) (hready : Region.ready .any ops listed = []) : Q .normal a w := by
  have hall := fun k i => all_listed hs hL hready (k + 1) k i (Nat.lt_succ_self k)
  have hp : p = l.length := by
    rcases Nat.lt_or_ge p l.length with h | h
    · have hl : l[p]? = some l[p] := by simp
      have := hL.before p _ hl (hall p _ hl)
      omega
    · have := hL.le; omega
  subst hp
  refine hQ m a w ⟨fun t => ?_, hM.mem, hE.size, hE.defers⟩ hM.fr
  by_cases hw : ∃ (i' : Nat) (o' : Oper), ops[i']? = some o' ∧ o'.dst = some t
  · obtain ⟨i', o', ho', hd'⟩ := hw
    obtain ⟨k', hk'⟩ := hs.cover i' (Array.getElem?_eq_some_iff.1 ho').1
    rw [E_new hs hr hk' ho' hd' l.length (List.getElem?_eq_some_iff.1 hk').1 (Nat.le_refl _)]
    exact hE.new k' i' o' t hk' ho' hd' (hall k' i' hk')
  · have hno : ∀ (i : Nat) (o : Oper), ops[i]? = some o → o.dst ≠ some t := fun i o h1 h2 => hw ⟨i, o, h1, h2⟩
    rw [E_old hr l.length (Nat.le_refl _) (fun _ i o _ _ h => hno i o h)]
    exact hE.old t (fun i o h _ => hno i o h)

theorem draw_any (hcall : CallOk P call) (hs : Stat P ops bits l) (hr : Run P call ops bits l E S V) {N : Nat} (hd : ∀ o ∈ ops.toList, dstOk N o = true) {Q : Exit → Act → World → Prop}
    (hQ : ∀ m' a' w', St N m' (E l.length) (S l.length) a' w' → Fr m0 (S 0) w0 m' (S l.length) w' → Q .normal a' w') : ∀ (fuel : Nat) (listed : Array Bool) (p : Nat) (m : Plc) (a : Act) (w : World),
    InvL P ops l listed p → InvE ops l E V N listed m a → InvM P ops l E S V m0 w0 listed p m w → left l listed ≤ fuel → wpAny P .any ops Q fuel listed a w := by
  intro fuel
  induction fuel with
  | zero =>
    intro listed p m a w hL hE hM hleft
    have hready : Region.ready .any ops listed = [] := by
      cases hq : Region.ready .any ops listed with
      | nil => rfl
      | cons j rest =>
        exfalso
        have hj : j ∈ Region.ready .any ops listed := by rw [hq]; exact List.mem_cons_self
        obtain ⟨h0, o, ho, _⟩ := mem_ready.1 hj
        have hi : j < ops.size := (Array.getElem?_eq_some_iff.1 ho).1
        obtain ⟨k, hk⟩ := hs.cover j hi
        have hsz : j < listed.size := by rw [hL.size]; exact hi
        have hn : ¬ Lst listed j := by
          unfold Lst
          simp [hsz] at h0 ⊢
          exact h0
        have := left_set hsz hn (List.mem_of_getElem? hk)
        omega
    exact ⟨hready, draw_done hs hr hQ hL hE hM hready⟩
  | succ fuel ih =>
    intro listed p m a w hL hE hM hleft
    refine ⟨fun hready => draw_done hs hr hQ hL hE hM hready, fun i hi => ?_⟩
    obtain ⟨h0, o, ho, hall⟩ := mem_ready.1 hi
    have hio : i < ops.size := (Array.getElem?_eq_some_iff.1 ho).1
    have hsz : i < listed.size := by rw [hL.size]; exact hio
    have hnl : ¬ Lst listed i := by
      unfold Lst
      simp [hsz] at h0 ⊢
      exact h0
    have hedge : ∀ o, ops[i]? = some o → ∀ e ∈ o.after, Region.binds .any e = true → Lst listed e.on := fun o' ho' e he hb => by
      rw [ho] at ho'; cases ho'
      exact hall e he hb
    obtain ⟨k, hk⟩ := hs.cover i hio
    have hkl : k < l.length := (List.getElem?_eq_some_iff.1 hk).1
    have hleft' : left l (listed.setIfInBounds i true) ≤ fuel := by
      have := left_set hsz hnl (List.mem_of_getElem? hk)
      omega
    have hdo : dstOk N o = true := hd o (by
      rw [← Array.getElem?_toList] at ho
      exact List.mem_of_getElem? ho)
    have hslot : ∀ t ∈ o.looksAt ops, ValRel m ((E k).at t) (a.tmps.getD t Go.undef) := fun t ht => slot_rel hs hr hL hE hk ho hnl hedge ht
    have hρ := opsRel_of_slots hslot
    have hsub : ∀ j, Lst listed j → Lst (listed.setIfInBounds i true) j := fun j h => (lst_set hsz).2 (.inr h)
    obtain ⟨o', ho', _, hstep⟩ := hr.step k i hk
    rw [ho] at ho'; cases ho'
    unfold wpOp
    simp only [ho]
    -- behind an operation that does not act
    have next : ¬ isAct P ops i → k < p → ∀ m' c w', m.le m' → ValRel m' (V k) c → InvM P ops l E S V m0 w0 (listed.setIfInBounds i true) p m' w' → wpAny P .any ops Q fuel (listed.setIfInBounds i true) (a.put o.dst c) w' := by
      intro hna hkp m' c w' hle hv hM'
      exact ih _ p m' _ w' (hL.list hs hk hio hkp hedge hna) (hE.list hs hle hsz hk ho hdo hv) hM' hleft'
    -- behind the acting one at the head
    have nextAct : k = p → ∀ m' c w', m.le m' → ValRel m' (V k) c → InvM P ops l E S V m0 w0 (listed.setIfInBounds i true) (p + 1) m' w' → wpAny P .any ops Q fuel (listed.setIfInBounds i true) (a.put o.dst c) w' := by
      intro hkp m' c w' hle hv hM'
      subst hkp
      obtain ⟨p', h1, h2, h3, h4, h5⟩ := hM'.forward hr hs _ (k + 1) rfl (by omega)
      exact ih _ p' m' _ w' (hL.act hs hk hio hedge (by omega) h2 h3 (fun q j g1 g2 => h4 q j (by omega) g2)) (hE.list hs hle hsz hk ho hdo hv) h5 hleft'
    rcases hstep with ⟨hg, hv, hS⟩ | ⟨hg, hc⟩
    · have hw := wanted_of_slots hslot hg
      rw [if_neg (by rw [hw]; simp)]
      have hval : ValRel m (V k) Go.undef := by rw [hv]; exact ValRel.skip
      rcases ready_pos hs hL hk hedge with ⟨hkp, hna⟩ | hkp
      · exact next (hna hnl) hkp m _ w (Plc.le_refl m) hval (hM.same hsub hr hM.mem (Fr.refl m (S p) w))
      · subst hkp
        obtain ⟨o', ho', ha⟩ := hL.head i hk
        rw [ho] at ho'; cases ho'
        exact nextAct rfl m _ w (Plc.le_refl m) hval (hM.act hr hsub hk ho ha (fun j hb => ready_anc hs hL hk hedge hb) (.inl ⟨hS, rfl, rfl⟩) (by rw [hS]; exact hM.mem) (by rw [hS]; exact Fr.refl m (S k) w))
    · have hw := wanted_of_slots hslot hg
      rw [if_pos hw]
      refine .inl ?_
      rcases ready_pos hs hL hk hedge with ⟨hkp, hna⟩ | hkp
      · have hna := hna hnl
        have hka : kindOf P o ≠ .act := fun h => hna ⟨o, ho, h⟩
        have hv : evOp P (E k) (S k) o = .val (V k) (S (k + 1)) := by
          rcases hc with h | ⟨f, args, h, _⟩
          · exact h
          · exact absurd h (kind_noCall hka)
        -- a value that is had from the memory as it is
        have plain : evOp P (E k) (S p) o = .val (V k) (S p) → o.wp P a w (wpAny P .any ops Q fuel (listed.setIfInBounds i true)) Q := by
          intro hev
          refine wp_of_carried hcall hM.mem hρ (.inl hev) _ Q ?_
          intro m' c w' hv' hm' hf'
          exact next hna hkp m' c w' hf'.le hv' (hM.same hsub hr hm' hf')
        cases hkd : kindOf P o with
        | act => exact absurd hkd hka
        | pure => exact plain ((kind_pure hkd hv).2 _)
        | read => exact plain (hM.reads k i o hk ho hkd hg hkp hnl)
        | alloc =>
          obtain ⟨hdl, b, hl⟩ := kind_alloc hkd hv
          have hev := hl.ev (S k)
          rw [hv] at hev
          obtain ⟨hV, hS⟩ := OpR.val.inj hev
          obtain ⟨hn, hget⟩ := hM.phant k i o hk ho hkd hg hkp hnl
          rw [hS, Mem.get_alloc, if_pos rfl] at hget
          obtain ⟨cv, obj, w', pl, r1, r2, r3, r4, r5, r6, r7⟩ := hl.run m w a.eval hρ
          have hadd : ∀ e q, m.add (S k).next pl (S k).next e = some q ↔ e = 0 ∧ q = pl := fun e q => by
            constructor
            · intro h
              rcases Plc.add_inv h with ⟨_, he, hq⟩ | h
              · exact ⟨he, hq⟩
              · rw [hn] at h; cases h
            · rintro ⟨rfl, rfl⟩; exact Plc.add_at _ _ _
          obtain ⟨v1, v2⟩ := r7 (S k).next (m.add (S k).next pl) (Plc.le_add hn pl) hadd
          unfold Oper.wp
          rw [r1]
          refine next hna hkp (m.add (S k).next pl) cv w' (Plc.le_add hn pl) (by rw [hV]; exact v1) ?_
          refine ⟨hM.mem.place r6 hget hn r2 v2, hM.fr.place (hM.nexts 0 k (Nat.zero_le _) (Nat.le_of_lt hkp)) hn r6 r2 r3 r4 r5, hM.nexts, ?_, ?_⟩
          · intro k2 i2 o2 hk2 ho2 hka2 hg2 hlt2 hnl2
            obtain ⟨g1, g2⟩ := hM.phant k2 i2 o2 hk2 ho2 hka2 hg2 hlt2 (fun h => hnl2 (hsub _ h))
            refine ⟨fun e => ?_, g2⟩
            cases hq : m.add (S k).next pl (S k2).next e with
            | none => rfl
            | some q =>
              rcases Plc.add_inv hq with ⟨heq, _, _⟩ | hq
              · exfalso
                have hne : k2 ≠ k := fun h => by
                  subst h
                  rw [hk] at hk2; cases hk2
                  exact hnl2 ((lst_set hsz).2 (.inl rfl))
                have grow : ∀ (q j : Nat) (oo : Oper), l[q]? = some j → ops[j]? = some oo → kindOf P oo = .alloc → guardB ops (E q) oo.guard = some true → (S (q + 1)).next = (S q).next + 1 := by
                  intro q j oo hq hoo hkq hgq
                  rcases step_mem hr hq hoo (by rw [hkq]; intro h; cases h) with ⟨hg', _⟩ | ⟨_, hv⟩
                  · rw [hgq] at hg'; cases hg'
                  · obtain ⟨hd, b', hl⟩ := kind_alloc hkq hv
                    have := hl.ev (S q)
                    rw [hv] at this
                    rw [(OpR.val.inj this).2]; rfl
                rcases Nat.lt_or_gt_of_ne hne with h | h
                · have h1 := grow k2 i2 o2 hk2 ho2 hka2 hg2
                  have h2 := hM.nexts (k2 + 1) k (by omega) (by omega)
                  omega
                · have h1 := grow k i o hk ho hkd hg
                  have h2 := hM.nexts (k + 1) k2 (by omega) (by omega)
                  omega
              · rw [g1] at hq; cases hq
          · intro k2 i2 o2 hk2 ho2 hkr2 hg2 hlt2 hnl2
            exact hM.reads k2 i2 o2 hk2 ho2 hkr2 hg2 hlt2 (fun h => hnl2 (hsub _ h))
      · subst hkp
        obtain ⟨o', ho', ha⟩ := hL.head i hk
        rw [ho] at ho'; cases ho'
        refine wp_of_carried hcall hM.mem hρ hc _ Q ?_
        intro m' c w' hv' hm' hf'
        exact nextAct rfl m' c w' hf'.le hv' (hM.act hr hsub hk ho ha (fun j hb => ready_anc hs hL hk hedge hb) (.inr hg) hm' hf')

theorem drawSound (hmix : P.follows .mixedOrders = true) : DrawSound P := by
  intro call N ops id Q m e M a w r hcall hd hok hst hev hnf hend
  obtain ⟨hs, hlen⟩ := stat_of_drawOk hok
  obtain ⟨E, S, V, hE0, hS0, hre, hr, _⟩ := run_of_draw (P := P) (call := call) (ops := ops) (bits := bitsOf ops) (orderOf P ops) [] e M r hev hnf
  refine wp_region_any hmix ?_
  have hw1 : MemRel m (S 0) ({ w with drawn := w.drawn + 1 } : World) := by rw [hS0]; exact hst.mem.of_heap rfl
  have hnone : ∀ i, ¬ Lst (Array.replicate ops.size false) i := by
    intro i h
    unfold Lst at h
    by_cases hi : i < ops.size
    · simp [hi] at h
    · simp [hi] at h
  have hM0 : InvM P ops (orderOf P ops) E S V m ({ w with drawn := w.drawn + 1 } : World) (Array.replicate ops.size false) 0 m ({ w with drawn := w.drawn + 1 } : World) := by
    refine ⟨hw1, Fr.refl _ _ _, ?_, ?_, ?_⟩
    · intro k k' h1 h2
      have : k = k' := by omega
      subst this; exact Nat.le_refl _
    · intro k i o _ _ _ _ h; omega
    · intro k i o _ _ _ _ h; omega
  obtain ⟨p, h1, h2, h3, h4, h5⟩ := hM0.forward hr hs _ 0 rfl (Nat.zero_le _)
  refine draw_any (m0 := m) (w0 := { w with drawn := w.drawn + 1 }) hcall hs hr hd ?_ ops.size (Array.replicate ops.size false) p m a _ ?_ ?_ h5 ?_
  · intro m' a' w' hst' hf'
    refine hend .normal _ _ (ofNormal hre) m' a' w' hst' ?_
    have : Fr m M w m (S 0) ({ w with drawn := w.drawn + 1 } : World) := by rw [hS0]; exact Fr.of_heap m M rfl rfl rfl rfl
    exact this.trans hf'
  · refine ⟨by simp, h2, ?_, h3, fun k i _ h => absurd h (hnone i), fun i o _ h => absurd h (hnone i)⟩
    intro k i hk ha
    constructor
    · intro h; exact absurd h (hnone i)
    · intro h; exact absurd ha (h4 k i (Nat.zero_le _) h hk)
  · refine ⟨fun k i o t _ _ _ h => absurd h (hnone i), fun t _ => ?_, hst.size, hst.defers⟩
    rw [hE0]; exact hst.env t
  · rw [← hlen]
    exact List.length_filter_le _ _

/-- The evaluator's answer is the program's. -/
theorem evCall_sound (hp : progOk P = true) {L : Lib} (hL : LibOk P L) (K n : Nat) : CallOk P (evCall P L K n) := by
  have hmix : P.follows .mixedOrders = true := by
    unfold progOk at hp
    simp only [Bool.and_eq_true] at hp
    exact hp.1
  exact evCall_ok (drawSound hmix) hp hL K n

end
end Go.VE
