/-
  The abstract evaluator: a region whose order is drawn.
-/
import Derived.Test.YtiikicpepnaghaaGreatDoorVeRun
import Derived.Test.YtiikicpepnaghaaGreatDoorVeCall
namespace Go.VE

section
variable {P : Program} {call : Caller} {ops : Array Oper} {bits l : List Nat} {E : Nat → Env} {S : Nat → Mem} {V : Nat → AVal}

/-- Listed already. -/
def Lst (listed : Array Bool) (i : Nat) : Prop := listed.getD i false = true

def isAct (P : Program) (ops : Array Oper) (i : Nat) : Prop := ∃ o, ops[i]? = some o ∧ kindOf P o = .act

def Closed (ops : Array Oper) (listed : Array Bool) : Prop :=
  ∀ i o, ops[i]? = some o → Lst listed i → ∀ e ∈ o.after, Region.binds .any e = true → Lst listed e.on

theorem bit_edge (hs : Stat P ops bits l) {k i j : Nat} (hk : l[k]? = some i) (hb : bitAt bits i j = true) :
    ∃ o, ops[i]? = some o ∧ ∃ e ∈ o.after, Region.binds .any e = true ∧ (e.on = j ∨ bitAt bits e.on j = true) := by
  obtain ⟨o, ho⟩ := hs.oper k i hk
  refine ⟨o, ho, ?_⟩
  unfold bitAt at hb
  rw [hs.bit i o ho] at hb
  obtain ⟨e, h1, h2, h3⟩ := orBits_test _ _ _ hb
  exact ⟨e, by simpa using h1, h2, h3⟩

theorem anc_pos (hs : Stat P ops bits l) {j : Nat} : ∀ (n k i : Nat), k < n → l[k]? = some i → bitAt bits i j = true → ∃ k', k' < k ∧ l[k']? = some j := by
  intro n
  induction n with
  | zero => intro k i h; omega
  | succ n ih =>
    intro k i hlt hk hb
    obtain ⟨o, ho, e, he, hbe, h⟩ := bit_edge hs hk hb
    obtain ⟨k', hk', hl'⟩ := hs.edge k i o hk ho e he hbe
    rcases h with rfl | h
    · exact ⟨k', hk', hl'⟩
    · obtain ⟨k'', h1, h2⟩ := ih k' e.on (by omega) hl' h
      exact ⟨k'', by omega, h2⟩

theorem anc_listed (hs : Stat P ops bits l) {listed : Array Bool} (hc : Closed ops listed) {j : Nat} : ∀ (n k i : Nat), k < n → l[k]? = some i → bitAt bits i j = true → Lst listed i → Lst listed j := by
  intro n
  induction n with
  | zero => intro k i h; omega
  | succ n ih =>
    intro k i hlt hk hb hl
    obtain ⟨o, ho, e, he, hbe, h⟩ := bit_edge hs hk hb
    have hle := hc i o ho hl e he hbe
    rcases h with rfl | h
    · exact hle
    · obtain ⟨k', hk', hl'⟩ := hs.edge k i o hk ho e he hbe
      exact ih k' e.on (by omega) hl' h hle

theorem lst_set {listed : Array Bool} {i j : Nat} (hi : i < listed.size) : Lst (listed.setIfInBounds i true) j ↔ j = i ∨ Lst listed j := by
  unfold Lst
  by_cases h : j = i
  · subst h; simp [hi]
  · rw [getD_set_ne false (Ne.symm h)]
    simp [h]

/-! Slots -/

theorem at_put_dst (e : Env) (d : Option Tmp) (v : AVal) (t : Tmp) : (e.put d v).at t = if d = some t then v else e.at t := by
  cases d with
  | none => rw [if_neg (by simp)]; rfl
  | some d =>
    rw [Env.at_put]
    by_cases h : t = d
    · subst h; simp
    · rw [if_neg h, if_neg (by simpa using fun hh => h hh.symm)]

theorem getD_put (a : Act) (d : Option Tmp) (c : Value) (t : Tmp) (ht : d = some t → t < a.tmps.size) : (a.put d c).tmps.getD t Go.undef = if d = some t then c else a.tmps.getD t Go.undef := by
  cases d with
  | none => rw [if_neg (by simp)]; rfl
  | some d =>
    show (a.tmps.setIfInBounds d c).getD t Go.undef = _
    by_cases h : d = t
    · subst h
      simp [ht rfl]
    · rw [if_neg (by simpa using h)]
      simp [Array.getElem?_setIfInBounds_ne h]

theorem E_old (hr : Run P call ops bits l E S V) {t : Tmp} : ∀ k, k ≤ l.length → (∀ (k' i : Nat) (o : Oper), k' < k → l[k']? = some i → ops[i]? = some o → o.dst ≠ some t) → (E k).at t = (E 0).at t := by
  intro k
  induction k with
  | zero => intro _ _; rfl
  | succ k ih =>
    intro hk hn
    have hl : l[k]? = some l[k] := by simp
    obtain ⟨o, ho, he, _⟩ := hr.step k _ hl
    rw [he, at_put_dst, if_neg (hn k _ o (by omega) hl ho)]
    exact ih (by omega) (fun k' i o h => hn k' i o (by omega))

theorem E_new (hs : Stat P ops bits l) (hr : Run P call ops bits l E S V) {t : Tmp} {k' i : Nat} {o : Oper} (hk' : l[k']? = some i) (ho : ops[i]? = some o) (hd : o.dst = some t) : ∀ k, k' < k → k ≤ l.length → (E k).at t = V k' := by
  intro k
  induction k with
  | zero => intro h; omega
  | succ k ih =>
    intro hlt hle
    have hl : l[k]? = some l[k] := by simp
    obtain ⟨o', ho', he, _⟩ := hr.step k _ hl
    rw [he, at_put_dst]
    by_cases hkk : k = k'
    · subst hkk
      rw [hk'] at hl
      have : i = l[k] := by simpa using hl
      rw [← this, ho] at ho'
      cases ho'
      rw [if_pos hd]
    · have hne : i ≠ l[k] := fun h => by
        rw [← h] at hl
        exact hkk (hs.nodup k k' i hl hk')
      rw [if_neg ((hs.slots i _ o o' t hne ho ho' hd).1)]
      exact ih (by omega) (by omega)

/-! What holds on the way -/

structure InvL (P : Program) (ops : Array Oper) (l : List Nat) (listed : Array Bool) (p : Nat) : Prop where
  size : listed.size = ops.size
  le : p ≤ l.length
  acts : ∀ (k i : Nat), l[k]? = some i → isAct P ops i → (Lst listed i ↔ k < p)
  head : ∀ i, l[p]? = some i → isAct P ops i
  before : ∀ (k i : Nat), l[k]? = some i → Lst listed i → k < p
  closed : Closed ops listed

structure InvE (ops : Array Oper) (l : List Nat) (E : Nat → Env) (V : Nat → AVal) (N : Nat) (listed : Array Bool) (m : Plc) (a : Act) : Prop where
  new : ∀ (k i : Nat) (o : Oper) (t : Tmp), l[k]? = some i → ops[i]? = some o → o.dst = some t → Lst listed i → ValRel m (V k) (a.tmps.getD t Go.undef)
  old : ∀ t : Tmp, (∀ (i : Nat) (o : Oper), ops[i]? = some o → Lst listed i → o.dst ≠ some t) → ValRel m ((E 0).at t) (a.tmps.getD t Go.undef)
  size : N ≤ a.tmps.size
  defers : a.defers = []

structure InvM (P : Program) (ops : Array Oper) (l : List Nat) (E : Nat → Env) (S : Nat → Mem) (V : Nat → AVal) (m0 : Plc) (w0 : World) (listed : Array Bool) (p : Nat) (m : Plc) (w : World) : Prop where
  mem : MemRel m (S p) w
  fr : Fr m0 (S 0) w0 m (S p) w
  nexts : ∀ k k', k ≤ k' → k' ≤ p → (S k).next ≤ (S k').next
  phant : ∀ (k i : Nat) (o : Oper), l[k]? = some i → ops[i]? = some o → kindOf P o = .alloc → guardB ops (E k) o.guard = some true → k < p → ¬ Lst listed i →
    (∀ e, m (S k).next e = none) ∧ (S p).get (S k).next = (S (k + 1)).get (S k).next
  reads : ∀ (k i : Nat) (o : Oper), l[k]? = some i → ops[i]? = some o → kindOf P o = .read → guardB ops (E k) o.guard = some true → k < p → ¬ Lst listed i →
    evOp P (E k) (S p) o = .val (V k) (S p)

/-- What is ready stands within what the memory has seen. -/
theorem ready_pos (hs : Stat P ops bits l) {listed : Array Bool} {p : Nat} (hL : InvL P ops l listed p) {k i : Nat} (hk : l[k]? = some i)
    (hedge : ∀ o, ops[i]? = some o → ∀ e ∈ o.after, Region.binds .any e = true → Lst listed e.on) : (k < p ∧ (¬ Lst listed i → ¬ isAct P ops i)) ∨ k = p := by
  rcases Nat.lt_trichotomy k p with h | h | h
  · exact .inl ⟨h, fun hn ha => hn ((hL.acts k i hk ha).2 h)⟩
  · exact .inr h
  · exfalso
    have hklt : k < l.length := (List.getElem?_eq_some_iff.1 hk).1
    have hp : l[p]? = some (l[p]'(by omega)) := by simp
    obtain ⟨oj, hoj, hact⟩ := hL.head _ hp
    have hb := hs.acts k i p _ oj h hk hp hoj hact
    have hnl : ¬ Lst listed (l[p]'(by omega)) := fun hh => by
      have := (hL.acts p _ hp ⟨oj, hoj, hact⟩).1 hh
      omega
    obtain ⟨o, ho, e, he, hbe, hh⟩ := bit_edge hs hk hb
    have hle := hedge o ho e he hbe
    rcases hh with hh | hh
    · rw [hh] at hle; exact hnl hle
    · obtain ⟨k', _, hl'⟩ := hs.edge k i o hk ho e he hbe
      exact hnl (anc_listed hs hL.closed (k' + 1) k' e.on (by omega) hl' hh hle)

theorem ready_anc (hs : Stat P ops bits l) {listed : Array Bool} {p : Nat} (hL : InvL P ops l listed p) {k i j : Nat} (hk : l[k]? = some i)
    (hedge : ∀ o, ops[i]? = some o → ∀ e ∈ o.after, Region.binds .any e = true → Lst listed e.on) (hb : bitAt bits i j = true) : Lst listed j := by
  obtain ⟨o, ho, e, he, hbe, hh⟩ := bit_edge hs hk hb
  have hle := hedge o ho e he hbe
  rcases hh with rfl | hh
  · exact hle
  · obtain ⟨k', _, hl'⟩ := hs.edge k i o hk ho e he hbe
    exact anc_listed hs hL.closed (k' + 1) k' e.on (by omega) hl' hh hle

/-- What a ready operation looks at is what it looked at in the run. -/
theorem slot_rel (hs : Stat P ops bits l) (hr : Run P call ops bits l E S V) {N : Nat} {listed : Array Bool} {p : Nat} {m : Plc} {a : Act} (hL : InvL P ops l listed p) (hE : InvE ops l E V N listed m a) {k i : Nat} {o : Oper} (hk : l[k]? = some i)
    (ho : ops[i]? = some o) (hnl : ¬ Lst listed i) (hedge : ∀ o, ops[i]? = some o → ∀ e ∈ o.after, Region.binds .any e = true → Lst listed e.on) {t : Tmp} (ht : t ∈ o.looksAt ops) : ValRel m ((E k).at t) (a.tmps.getD t Go.undef) := by
  have hkl : k ≤ l.length := Nat.le_of_lt (List.getElem?_eq_some_iff.1 hk).1
  by_cases hw : ∃ (i' : Nat) (o' : Oper), ops[i']? = some o' ∧ o'.dst = some t
  · obtain ⟨i', o', ho', hd'⟩ := hw
    have honly : ∀ (i'' : Nat) (o'' : Oper), ops[i'']? = some o'' → o''.dst = some t → i'' = i' := fun i'' o'' h1 h2 => by
      by_cases he : i'' = i'
      · exact he
      · exact absurd hd' (hs.slots i'' i' o'' o' t he h1 ho' h2).1
    obtain ⟨k', hk'⟩ := hs.cover i' (Array.getElem?_eq_some_iff.1 ho').1
    by_cases hl' : Lst listed i'
    · -- written already
      have hne : i' ≠ i := fun h => hnl (h ▸ hl')
      rcases (hs.slots i' i o' o t hne ho' ho hd').2 ht with hb | hb
      · exact absurd (anc_listed hs hL.closed (k' + 1) k' i' (by omega) hk' hb hl') hnl
      · obtain ⟨k'', h1, h2⟩ := anc_pos hs (k + 1) k i (by omega) hk hb
        have : k'' = k' := hs.nodup k'' k' i' h2 hk'
        subst this
        rw [E_new hs hr hk' ho' hd' k h1 hkl]
        exact hE.new _ i' o' t hk' ho' hd' hl'
    · have hnot : ∀ (i : Nat) (o : Oper), ops[i]? = some o → Lst listed i → o.dst ≠ some t := fun i'' o'' h1 h2 h3 => by
        have := honly i'' o'' h1 h3
        subst this
        exact hl' h2
      have hold := hE.old t hnot
      rw [E_old hr k hkl ?_]
      · exact hold
      · intro k'' i'' o'' hlt h1 h2 h3
        have := honly i'' o'' h2 h3
        subst this
        by_cases hne : i'' = i
        · subst hne; have := hs.nodup k'' k _ h1 hk; omega
        · rcases (hs.slots i'' i o'' o t hne h2 ho h3).2 ht with hb | hb
          · obtain ⟨k3, h4, h5⟩ := anc_pos hs (k'' + 1) k'' i'' (by omega) h1 hb
            have := hs.nodup k3 k i h5 hk
            omega
          · exact hl' (ready_anc hs hL hk hedge hb)
  · have hno : ∀ (i : Nat) (o : Oper), ops[i]? = some o → o.dst ≠ some t := fun i o h1 h2 => hw ⟨i, o, h1, h2⟩
    rw [E_old hr k hkl (fun _ i o _ _ h => hno i o h)]
    exact hE.old t (fun i o h _ => hno i o h)

theorem opsRel_of_slots {m : Plc} {e : Env} {a : Act} {o : Oper} (h : ∀ t ∈ o.looksAt ops, ValRel m (e.at t) (a.tmps.getD t Go.undef)) : OpsRel m e a.eval o := by
  intro x hx
  cases x with
  | tmp t => exact h t (List.mem_append_left _ (List.mem_filterMap.2 ⟨.tmp t, by simpa using hx, rfl⟩))
  | const v => exact ofVal_rel m v
  | global g => exact .undef _
  | func f => exact .func f [] #[] rfl (fun i v c hv _ => by simp at hv)

theorem wanted_of_slots {m : Plc} {e : Env} {a : Act} {o : Oper} (h : ∀ t ∈ o.looksAt ops, ValRel m (e.at t) (a.tmps.getD t Go.undef)) {b : Bool} (hg : guardB ops e o.guard = some b) : Region.wanted o (yielded ops a.tmps) = b := by
  refine guardB_wanted' (m := m) (fun j want t h1 h2 => h t ?_) hg
  unfold Oper.looksAt
  rw [h1]
  simp [h2]

/-- Slots, behind one more operation. -/
theorem InvE.list (hs : Stat P ops bits l) {N : Nat} {listed : Array Bool} {m m' : Plc} {a : Act} (hE : InvE ops l E V N listed m a) (hm : m.le m') {k i : Nat} {o : Oper} (hsz : i < listed.size) (hk : l[k]? = some i) (ho : ops[i]? = some o) (hd : dstOk N o = true) {c : Value} (hv : ValRel m' (V k) c) :
    InvE ops l E V N (listed.setIfInBounds i true) m' (a.put o.dst c) := by
  have hlt : ∀ t, o.dst = some t → t < a.tmps.size := dstOk_lt hd hE.size
  refine ⟨?_, ?_, by rw [size_put]; exact hE.size, by rw [defers_put]; exact hE.defers⟩
  · intro k' i' o' t hk' ho' hd' hl'
    rw [getD_put _ _ _ _ (hlt t)]
    by_cases hi : i' = i
    · subst hi
      rw [ho] at ho'; cases ho'
      rw [if_pos hd', hs.nodup k' k _ hk' hk]
      exact hv
    · rw [if_neg (hs.slots i' i o' o t hi ho' ho hd').1]
      exact (hE.new k' i' o' t hk' ho' hd' (((lst_set hsz).1 hl').resolve_left hi)).mono hm
  · intro t hn
    rw [getD_put _ _ _ _ (hlt t), if_neg (hn i o ho ((lst_set hsz).2 (.inl rfl)))]
    exact (hE.old t (fun i' o' h1 h2 => hn i' o' h1 ((lst_set hsz).2 (.inr h2)))).mono hm

/-- One operation that does not act is listed. -/
theorem InvL.list (hs : Stat P ops bits l) {listed : Array Bool} {p : Nat} (hL : InvL P ops l listed p) {k i : Nat} (hk : l[k]? = some i) (hi : i < ops.size) (hkp : k < p)
    (hedge : ∀ o, ops[i]? = some o → ∀ e ∈ o.after, Region.binds .any e = true → Lst listed e.on) (ha : ¬ isAct P ops i) : InvL P ops l (listed.setIfInBounds i true) p := by
  have hsz : i < listed.size := by rw [hL.size]; exact hi
  refine ⟨by simp [hL.size], hL.le, ?_, hL.head, ?_, ?_⟩
  · intro k' i' hk' ha'
    rw [lst_set hsz]
    constructor
    · rintro (rfl | h)
      · exact absurd ha' ha
      · exact (hL.acts k' i' hk' ha').1 h
    · intro h; exact .inr ((hL.acts k' i' hk' ha').2 h)
  · intro k' i' hk' hl'
    rcases (lst_set hsz).1 hl' with rfl | h
    · have := hs.nodup k' k _ hk' hk; omega
    · exact hL.before k' i' hk' h
  · intro i' o' ho' hl' e he hb
    rw [lst_set hsz]
    rcases (lst_set hsz).1 hl' with rfl | h
    · exact .inr (hedge o' ho' e he hb)
    · exact .inr (hL.closed i' o' ho' h e he hb)

/-- The acting operation at the head is listed, and those that follow are passed. -/
theorem InvL.act (hs : Stat P ops bits l) {listed : Array Bool} {p : Nat} (hL : InvL P ops l listed p) {i : Nat} (hk : l[p]? = some i) (hi : i < ops.size)
    (hedge : ∀ o, ops[i]? = some o → ∀ e ∈ o.after, Region.binds .any e = true → Lst listed e.on) {p' : Nat} (hp' : p < p') (hle : p' ≤ l.length) (hhead : ∀ i, l[p']? = some i → isAct P ops i)
    (hbetween : ∀ (k i : Nat), p < k → k < p' → l[k]? = some i → ¬ isAct P ops i) : InvL P ops l (listed.setIfInBounds i true) p' := by
  have hsz : i < listed.size := by rw [hL.size]; exact hi
  refine ⟨by simp [hL.size], hle, ?_, hhead, ?_, ?_⟩
  · intro k' i' hk' ha'
    rw [lst_set hsz]
    constructor
    · rintro (rfl | h)
      · have := hs.nodup k' p _ hk' hk; omega
      · have := (hL.acts k' i' hk' ha').1 h; omega
    · intro h
      rcases Nat.lt_trichotomy k' p with h1 | h1 | h1
      · exact .inr ((hL.acts k' i' hk' ha').2 h1)
      · subst h1; rw [hk] at hk'; exact .inl (Option.some.inj hk').symm
      · exact absurd ha' (hbetween k' i' h1 h hk')
  · intro k' i' hk' hl'
    rcases (lst_set hsz).1 hl' with rfl | h
    · have := hs.nodup k' p _ hk' hk; omega
    · have := hL.before k' i' hk' h; omega
  · intro i' o' ho' hl' e he hb
    rw [lst_set hsz]
    rcases (lst_set hsz).1 hl' with rfl | h
    · exact .inr (hedge o' ho' e he hb)
    · exact .inr (hL.closed i' o' ho' h e he hb)

end
end Go.VE
