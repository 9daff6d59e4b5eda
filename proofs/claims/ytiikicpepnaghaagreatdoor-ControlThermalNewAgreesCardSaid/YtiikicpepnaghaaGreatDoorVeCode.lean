/-
  The abstract evaluator: regions in the text's order, and what stands round them.
-/
import Derived.Test.YtiikicpepnaghaaGreatDoorVeSound
import Derived.LoopN
namespace Go.VE

section
variable {P : Program}

/-- A frame's slots and memory, as the evaluator sees them. -/
structure St (N : Nat) (m : Plc) (e : Env) (M : Mem) (a : Act) (w : World) : Prop where
  env : EnvRel m e a
  mem : MemRel m M w
  size : N ≤ a.tmps.size
  defers : a.defers = []

/-- What calls are worth. -/
def CallOk (P : Program) (call : Caller) : Prop :=
  ∀ f args M v M', call f args M = some (v, M') → (∃ fn, P.funcs[f]? = some fn ∧ fn.body.isSome = true ∧ fn.name ≠ "runtime.NumGoroutine") ∧
    ∀ m w cs, MemRel m M w → ArgsRel m args cs → Calls P f cs.toArray w fun e w' => ∃ m' c, e = .returned c ∧ ValRel m' v c ∧ MemRel m' M' w' ∧ Fr m M w m' M' w'

theorem size_put (a : Act) (d : Option Tmp) (c : Value) : (a.put d c).tmps.size = a.tmps.size := by cases d <;> simp [Act.put]
theorem defers_put (a : Act) (d : Option Tmp) (c : Value) : (a.put d c).defers = a.defers := by cases d <;> simp [Act.put]

def dstOk (N : Nat) (o : Oper) : Bool :=
  match o.dst with
  | some d => Nat.blt d N
  | none => true

theorem dstOk_lt {N : Nat} {o : Oper} (h : dstOk N o = true) {a : Act} (hN : N ≤ a.tmps.size) : ∀ t, o.dst = some t → t < a.tmps.size := by
  intro t ht
  unfold dstOk at h
  rw [ht] at h
  exact Nat.lt_of_lt_of_le (nat_lt_of_blt h) hN

theorem St.put {N : Nat} {m m' : Plc} {e : Env} {M M' : Mem} {a : Act} {w w' : World} (h : St N m e M a w) (hm : m.le m') {o : Oper} (hd : dstOk N o = true) {v : AVal} {c : Value} (hv : ValRel m' v c) (hM : MemRel m' M' w') :
    St N m' (e.put o.dst v) M' (a.put o.dst c) w' where
  env := (h.env.mono hm).put hv (dstOk_lt hd h.size)
  mem := hM
  size := by rw [size_put]; exact h.size
  defers := by rw [defers_put]; exact h.defers

/-- Whether an operation is carried out. -/
theorem guardB_wanted' {m : Plc} {e : Env} {a : Act} {ops : Array Oper} {o : Oper} (he : ∀ j want t, o.guard = some (j, want) → (ops[j]?).bind (·.dst) = some t → ValRel m (e.at t) (a.tmps.getD t Go.undef)) {b : Bool} (h : guardB ops e o.guard = some b) : Region.wanted o (yielded ops a.tmps) = b := by
  unfold guardB at h
  unfold Region.wanted
  cases hg : o.guard with
  | none => rw [hg] at h; cases h; rfl
  | some p =>
    obtain ⟨j, want⟩ := p
    rw [hg] at h
    simp only at h ⊢
    unfold yielded
    unfold dstOf at h
    cases hd : (ops[j]?).bind (·.dst) with
    | none => rw [hd] at h; cases h; rfl
    | some t =>
      rw [hd] at h
      replace h : wantB want (e.at t) = some b := h
      have hv := he j want t hg hd
      simp only [Option.bind_some]
      unfold wantB at h
      split at h
      · rename_i b' heq
        cases h
        rw [heq] at hv
        have := hv.bool_inv
        simp only [Array.getD_eq_getD_getElem?] at this
        cases hq : a.tmps[t]? with
        | none => rw [hq] at this; cases this
        | some u => rw [hq] at this; simp only [Option.getD_some] at this; subst this; simp
      · rename_i heq
        cases h
        rw [heq] at hv
        have := hv.skip_inv
        simp only [Array.getD_eq_getD_getElem?] at this
        cases hq : a.tmps[t]? with
        | none => rfl
        | some u => rw [hq] at this; simp only [Option.getD_some] at this; subst this; rfl
      · cases h

theorem guardB_wanted {m : Plc} {e : Env} {a : Act} (he : EnvRel m e a) {ops : Array Oper} {o : Oper} {b : Bool} (h : guardB ops e o.guard = some b) : Region.wanted o (yielded ops a.tmps) = b :=
  guardB_wanted' (fun _ _ t _ _ => he t) h

/-- One operation, as the walk has it: what it hands on, whichever it is. -/
theorem wp_of_ev {call : Caller} (hcall : CallOk P call) {N : Nat} {m : Plc} {e : Env} {M : Mem} {a : Act} {w : World} (hs : St N m e M a w) {o : Oper} {k : AVal → Mem → Out} {r : Out} (hr : onOp call M k (evOp P e M o) = r) (hnf : r ≠ .fail)
    (K : Act → World → Prop) (Q : Exit → Act → World → Prop)
    (hK : ∀ v M', k v M' = r → (∀ m' c w', ValRel m' v c → MemRel m' M' w' → Fr m M w m' M' w' → K (a.put o.dst c) w')) : o.wp P a w K Q := by
  have hρ : OpsRel m e a.eval o := fun x _ => hs.env.eval x
  unfold Oper.wp
  cases hev : evOp P e M o with
  | fail => rw [hev] at hr; exact absurd hr.symm hnf
  | val v M' =>
    rw [hev] at hr
    obtain ⟨m', nx, w', h1, h2, h3, h4⟩ := evOp_val hs.mem hρ hev
    rw [h1]
    cases nx with
    | value c => exact hK v M' hr m' c w' h2 h3 h4
    | skip =>
      have h2 : v = .tuple [] := h2
      subst h2
      exact hK _ M' hr m' Go.undef w' ValRel.skip h3 h4
    | _ => exact absurd h2 (by intro h; exact h)
  | call f args =>
    rw [hev] at hr
    replace hr : onCall k (call f args M) = r := hr
    cases hc : call f args M with
    | none => rw [hc] at hr; exact absurd hr.symm hnf
    | some q =>
      obtain ⟨v, M'⟩ := q
      rw [hc] at hr
      obtain ⟨⟨fn, hf, hb, hn⟩, hok⟩ := hcall f args M v M' hc
      obtain ⟨cs, h1, h2⟩ := evOp_call hρ hev hf hb hn w
      rw [h1]
      refine (hok m w cs hs.mem h2).mono ?_
      rintro en w' ⟨m', c, rfl, h3, h4, h5⟩
      exact hK v M' hr m' c w' h3 h4 h5

/-- How an outcome stands for an exit. -/
def OutIs : Out → Exit → Env → Mem → Prop
  | .normal e M, .normal, e', M' => e' = e ∧ M' = M
  | .exit id e M, .exit id', e', M' => id' = id ∧ e' = e ∧ M' = M
  | .ret e M, .ret, e', M' => e' = e ∧ M' = M
  | _, _, _, _ => False

/-- What is to be shown of code: where the evaluator comes to an outcome, the model comes to it too. -/
def Ends (N : Nat) (m : Plc) (M : Mem) (w : World) (r : Out) (Q : Exit → Act → World → Prop) : Prop :=
  ∀ ex e' M', OutIs r ex e' M' → ∀ m' a' w', St N m' e' M' a' w' → Fr m M w m' M' w' → Q ex a' w'

theorem Ends.trans {N : Nat} {m m1 : Plc} {M M1 : Mem} {w w1 : World} {r : Out} {Q : Exit → Act → World → Prop} (h : Ends N m M w r Q) (hf : Fr m M w m1 M1 w1) : Ends N m1 M1 w1 r Q :=
  fun ex e' M' ho m' a' w' hs hf' => h ex e' M' ho m' a' w' hs (hf.trans hf')

theorem ofNormal {r : Out} {e : Env} {M : Mem} (h : r = .normal e M) : OutIs r .normal e M := by subst h; exact ⟨rfl, rfl⟩

theorem evOps_cons (call : Caller) (ops : Array Oper) (o : Oper) (l : List Oper) (e : Env) (M : Mem) :
    evOps P call ops (o :: l) e M = stepOp P call ops o (evOps P call ops l) e M := rfl

theorem evOps_wp {call : Caller} (hcall : CallOk P call) {N : Nat} {ops : Array Oper} (hd : ∀ o ∈ ops.toList, dstOk N o = true) {Q : Exit → Act → World → Prop} : ∀ (n k : Nat) (l : List Oper), (∀ j, l[j]? = ops[k + j]?) → l.length = n →
    ∀ (m : Plc) (e : Env) (M : Mem) (a : Act) (w : World), St N m e M a w → ∀ r, evOps P call ops l e M = r → r ≠ .fail → Ends N m M w r Q → wpOps P ops Q (List.range' k n) a w := by
  intro n
  induction n with
  | zero =>
    intro k l _ hl m e M a w hs r hr _ hend
    have : l = [] := List.eq_nil_of_length_eq_zero hl
    subst this
    exact hend .normal e M (ofNormal hr.symm) m a w hs (Fr.refl m M w)
  | succ n ih =>
    intro k l hk hl m e M a w hs r hr hnf hend
    cases l with
    | nil => cases hl
    | cons o l =>
      have ho : ops[k]? = some o := by simpa using (hk 0).symm
      have hdo : dstOk N o = true := hd o (by
        rw [← Array.getElem?_toList] at ho
        exact List.mem_of_getElem? ho)
      have hk' : ∀ j, l[j]? = ops[k + 1 + j]? := fun j => by
        have := hk (j + 1)
        simp only [List.getElem?_cons_succ] at this
        rw [this]; congr 1; omega
      rw [evOps_cons] at hr
      unfold stepOp at hr
      simp only [List.range'_succ, wpOps, ho]
      cases hg : guardB ops e o.guard with
      | none => rw [hg] at hr; exact absurd hr.symm hnf
      | some b =>
        rw [hg] at hr
        have hw := guardB_wanted hs.env hg
        cases b with
        | true =>
          rw [if_pos hw]
          replace hr : onOp call M (fun v M' => evOps P call ops l (e.put o.dst v) M') (evOp P e M o) = r := hr
          refine .inl (wp_of_ev hcall hs hr hnf _ Q ?_)
          intro v M' hkr m' c w' hv hM hf
          exact ih (k + 1) l hk' (by simpa using hl) m' _ M' _ w' (hs.put hf.le hdo hv hM) r hkr hnf (hend.trans hf)
        | false =>
          rw [if_neg (by rw [hw]; simp)]
          replace hr : evOps P call ops l (e.put o.dst skipVal) M = r := hr
          exact ih (k + 1) l hk' (by simpa using hl) m _ M _ w (hs.put (Plc.le_refl m) hdo ValRel.skip hs.mem) r hr hnf hend

theorem region_text_wp {call : Caller} (hcall : CallOk P call) {N : Nat} {ops : Array Oper} (hd : ∀ o ∈ ops.toList, dstOk N o = true) {Q : Exit → Act → World → Prop} {m : Plc} {e : Env} {M : Mem} {a : Act} {w : World} (hs : St N m e M a w) {r : Out}
    (hr : evOps P call ops ops.toList e M = r) (hnf : r ≠ .fail) (hend : Ends N m M w r Q) (id : Nat) : (Code.region id ops false).wp P Q a w := by
  refine wp_region ?_
  rw [List.range_eq_range']
  exact evOps_wp hcall hd ops.size 0 ops.toList (fun j => by rw [Nat.zero_add, Array.getElem?_toList]) (by simp) m e M a w hs r hr hnf hend

/-! The check of a program -/

def codeOk (P : Program) (N : Nat) : Code → Bool
  | .region _ ops draw => ops.toList.all (dstOk N) && (!draw || drawOk P ops)
  | .seq a b => codeOk P N a && codeOk P N b
  | .cond _ a b => codeOk P N a && codeOk P N b
  | .block _ b => codeOk P N b
  | .loop b => codeOk P N b
  | _ => true

def fnOk (P : Program) (fn : Func) : Bool :=
  match fn.body with
  | some c => fn.name != "runtime.NumGoroutine" && codeOk P fn.ntmps c
  | none => true

def progOk (P : Program) : Bool := P.follows .mixedOrders && P.funcs.toList.all (fnOk P)

/-- What a drawn region owes. -/
def DrawSound (P : Program) : Prop :=
  ∀ (call : Caller) (N : Nat) (ops : Array Oper) (id : Nat) (Q : Exit → Act → World → Prop) (m : Plc) (e : Env) (M : Mem) (a : Act) (w : World) (r : Out), CallOk P call → (∀ o ∈ ops.toList, dstOk N o = true) → drawOk P ops = true → St N m e M a w →
    evDraw P call ops (bitsOf ops) (orderOf P ops) [] e M = r → r ≠ .fail → Ends N m M w r Q → (Code.region id ops true).wp P Q a w

theorem evCode_succ (call : Caller) (n : Nat) (c : Code) (e : Env) (M : Mem) : evCode P call (n + 1) c e M = stepCode P call (evCode P call n) c e M := rfl

theorem evCode_wp (hdraw : DrawSound P) {call : Caller} (hcall : CallOk P call) {N : Nat} : ∀ n : Nat,
    (∀ (c : Code), codeOk P N c = true → ∀ (Q : Exit → Act → World → Prop) (m : Plc) (e : Env) (M : Mem) (a : Act) (w : World) (r : Out), St N m e M a w → evCode P call n c e M = r → r ≠ .fail → Ends N m M w r Q → c.wp P Q a w) ∧
    (∀ (b : Code), codeOk P N b = true → ∀ (Q : Exit → Act → World → Prop) (m : Plc) (e : Env) (M : Mem) (a : Act) (w : World) (r : Out), St N m e M a w → evCode P call n (.loop b) e M = r → r ≠ .fail → Ends N m M w r Q → Code.rounds P b Q n a w) := by
  intro n
  induction n with
  | zero =>
    refine ⟨fun c _ Q m e M a w r _ hr hnf _ => absurd hr.symm hnf, fun b _ Q m e M a w r _ hr hnf _ => absurd hr.symm hnf⟩
  | succ n ih =>
    obtain ⟨ihA, ihB⟩ := ih
    -- 'thenOut'
    have hthen : ∀ (r1 : Out) (k : Env → Mem → Out) (r : Out), thenOut k r1 = r → r ≠ .fail → r1 ≠ .fail := by
      intro r1 k r h hnf he; subst he; exact hnf h.symm
    have hB : ∀ (b : Code), codeOk P N b = true → ∀ (Q : Exit → Act → World → Prop) (m : Plc) (e : Env) (M : Mem) (a : Act) (w : World) (r : Out), St N m e M a w → evCode P call (n + 1) (.loop b) e M = r → r ≠ .fail → Ends N m M w r Q → Code.rounds P b Q (n + 1) a w := by
      intro b hb Q m e M a w r hs hr hnf hend
      rw [evCode_succ] at hr
      replace hr : thenOut (evCode P call n (.loop b)) (evCode P call n b e M) = r := hr
      rw [rounds_succ]
      refine ihA b hb _ m e M a w _ hs rfl (hthen _ _ _ hr hnf) ?_
      intro ex e' M' ho m' a' w' hs' hf
      cases hq : evCode P call n b e M with
      | normal e1 M1 =>
        rw [hq] at hr ho
        cases ex <;> first | exact absurd ho (fun h => h) | skip
        obtain ⟨rfl, rfl⟩ := ho
        exact ihB b hb Q m' e' M' a' w' r hs' hr hnf (hend.trans hf)
      | exit id e1 M1 =>
        rw [hq] at hr ho
        subst hr
        cases ex <;> first | exact absurd ho (fun h => h) | skip
        exact hend _ _ _ ho m' a' w' hs' hf
      | ret e1 M1 =>
        rw [hq] at hr ho
        subst hr
        cases ex <;> first | exact absurd ho (fun h => h) | skip
        exact hend _ _ _ ho m' a' w' hs' hf
      | fail => rw [hq] at ho; exact absurd ho (by cases ex <;> exact fun h => h)
    refine ⟨?_, hB⟩
    intro c hc Q m e M a w r hs hr hnf hend
    cases c with
    | skip => subst hr; exact wp_skip (hend .normal e M ⟨rfl, rfl⟩ m a w hs (Fr.refl m M w))
    | label l => subst hr; exact wp_label (hend .normal e M ⟨rfl, rfl⟩ m a w hs (Fr.refl m M w))
    | ret => subst hr; exact wp_ret (hend .ret e M ⟨rfl, rfl⟩ m a w hs (Fr.refl m M w))
    | exit id => subst hr; exact wp_exit (hend (.exit id) e M ⟨rfl, rfl, rfl⟩ m a w hs (Fr.refl m M w))
    | region id ops draw =>
      rw [evCode_succ] at hr
      replace hr : evRegion P call ops draw e M = r := hr
      simp only [codeOk, Bool.and_eq_true, List.all_eq_true] at hc
      cases draw with
      | false => exact region_text_wp hcall hc.1 hs hr hnf hend id
      | true => exact hdraw call N ops id Q m e M a w r hcall hc.1 (by simpa using hc.2) hs hr hnf hend
    | seq x y =>
      rw [evCode_succ] at hr
      replace hr : thenOut (evCode P call n y) (evCode P call n x e M) = r := hr
      simp only [codeOk, Bool.and_eq_true] at hc
      refine wp_seq (ihA x hc.1 _ m e M a w _ hs rfl (hthen _ _ _ hr hnf) ?_)
      intro ex e' M' ho m' a' w' hs' hf
      cases hq : evCode P call n x e M with
      | normal e1 M1 =>
        rw [hq] at hr ho
        cases ex <;> first | exact absurd ho (fun h => h) | skip
        obtain ⟨rfl, rfl⟩ := ho
        exact ihA y hc.2 Q m' e' M' a' w' r hs' hr hnf (hend.trans hf)
      | exit id e1 M1 =>
        rw [hq] at hr ho
        subst hr
        cases ex <;> first | exact absurd ho (fun h => h) | skip
        exact hend _ _ _ ho m' a' w' hs' hf
      | ret e1 M1 =>
        rw [hq] at hr ho
        subst hr
        cases ex <;> first | exact absurd ho (fun h => h) | skip
        exact hend _ _ _ ho m' a' w' hs' hf
      | fail => rw [hq] at ho; exact absurd ho (by cases ex <;> exact fun h => h)
    | cond x y z =>
      rw [evCode_succ] at hr
      replace hr : condOut (evalO e x) (evCode P call n y e M) (evCode P call n z e M) = r := hr
      simp only [codeOk, Bool.and_eq_true] at hc
      unfold condOut at hr
      have hx := hs.env.eval x
      split at hr
      · rename_i heq
        rw [heq] at hx
        exact wp_cond_true hx.bool_inv (ihA y hc.1 Q m e M a w r hs hr hnf hend)
      · rename_i heq
        rw [heq] at hx
        exact wp_cond_false hx.bool_inv (ihA z hc.2 Q m e M a w r hs hr hnf hend)
      · exact absurd hr.symm hnf
    | block id b =>
      rw [evCode_succ] at hr
      replace hr : blockOut id (evCode P call n b e M) = r := hr
      refine wp_block (ihA b hc _ m e M a w _ hs rfl (fun he => by rw [he] at hr; exact hnf hr.symm) ?_)
      intro ex e' M' ho m' a' w' hs' hf
      cases hq : evCode P call n b e M with
      | normal e1 M1 =>
        rw [hq] at hr ho
        subst hr
        cases ex <;> first | exact absurd ho (fun h => h) | skip
        exact hend _ _ _ ho m' a' w' hs' hf
      | exit j e1 M1 =>
        rw [hq] at hr ho
        cases ex <;> first | exact absurd ho (fun h => h) | skip
        rename_i id'
        obtain ⟨rfl, rfl, rfl⟩ := ho
        show (if id' = id then Q .normal a' w' else Q (.exit id') a' w')
        by_cases hj : id' = id
        · subst hj
          rw [if_pos rfl]
          have : Nat.beq id' id' = true := Nat.beq_refl id'
          simp only [blockOut, this] at hr
          subst hr
          exact hend .normal _ _ ⟨rfl, rfl⟩ m' a' w' hs' hf
        · rw [if_neg hj]
          have : Nat.beq id' id = false := by
            cases hb : Nat.beq id' id with
            | false => rfl
            | true => exact absurd (Nat.eq_of_beq_eq_true hb) hj
          simp only [blockOut, this] at hr
          subst hr
          exact hend (.exit id') _ _ ⟨rfl, rfl, rfl⟩ m' a' w' hs' hf
      | ret e1 M1 =>
        rw [hq] at hr ho
        subst hr
        cases ex <;> first | exact absurd ho (fun h => h) | skip
        exact hend _ _ _ ho m' a' w' hs' hf
      | fail => rw [hq] at ho; exact absurd ho (by cases ex <;> exact fun h => h)
    | loop b => exact wp_loop_rounds (n + 1) (hB b hc Q m e M a w r hs hr hnf hend)
    | rangeFunc _ _ _ _ => exact absurd hr.symm hnf
    | scope _ => exact absurd hr.symm hnf
    | goto _ => exact absurd hr.symm hnf
    | refuse _ => exact absurd hr.symm hnf

end
end Go.VE
