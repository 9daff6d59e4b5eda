/-
  A law over arguments that are data: from a run of the evaluator over the laid arguments to what the model does.
-/
import Derived.Test.YtiikicpepnaghaaGreatDoorVeArgs
namespace Go.VE
open Go.ChangeShapes Go.WideShapes Go.RowKit Go.ChangeAt Go.Lib

section
variable {H : Type}

/-- An argument reads so. -/
def RdV (P : Program) (M : Mem) (t : TypeId) (a : AVal) (d : DataW H) : Prop :=
  match agg? P t with
  | some true => ∃ vs, a = .agg vs ∧ Rd P M t vs d
  | _ => Rd P M t [a] d

def RdAll (P : Program) (M : Mem) : List TypeId → List AVal → List (DataW H) → Prop
  | [], [], [] => True
  | t :: ts, a :: as, d :: ds => RdV P M t a d ∧ RdAll P M ts as ds
  | _, _, _ => False

/-- Blocks have numbers below the next. -/
def Mem.Fine (M : Mem) : Prop := ∀ id b, M.get id = some b → id < M.next

variable {P : Program} {enc : TypeId × Value → H} {W : World}

theorem RdV.mono {M M' : Mem} (hs : Sub M M') {t : TypeId} {a : AVal} {d : DataW H} (h : RdV P M t a d) : RdV P M' t a d := by
  unfold RdV at h ⊢
  split at h
  · obtain ⟨vs, h1, h2⟩ := h
    exact ⟨vs, h1, h2.mono hs⟩
  · exact h.mono hs

theorem lay_value {n : Nat} {t : TypeId} (hok : okT P n t = true) {v : Value} {r : Reach} {base : Nat} (hv : Value.okWide P W r base t v) {d : DataW H} {p : List MemPlace} (h : DataW.Trod enc P W 0 (fun _ => true) true t v d p) {m : Plc} {M : Mem} (hM : MemRel m M W) (hr : RoM m M) :
    ∃ (m' : Plc) (M' : Mem) (a : AVal), Laid W m M m' M' ∧ ValRel m' a v ∧ RdV P M' t a d := by
  obtain ⟨fuel, hf⟩ := h
  obtain ⟨m', M', vs, l, hrow, hrd⟩ := lays_all (enc := enc) (W := W) n t hok fuel _ _ hf m M hM hr
  have one : (∀ cs, v ≠ .agg cs) → agg? P t = some false → ∃ (m' : Plc) (M' : Mem) (a : AVal), Laid W m M m' M' ∧ ValRel m' a v ∧ RdV P M' t a d := by
    intro hna hag
    have hcells : v.cells = #[v] := by cases v <;> first | rfl | exact absurd rfl (hna _)
    have hl := hrow.1
    rw [hcells] at hl
    match vs, hl, hrow, hrd with
    | [a], _, hrow, hrd =>
      refine ⟨m', M', a, l, (hrow.2 0 a v rfl (by rw [hcells]; rfl)).1, ?_⟩
      unfold RdV
      rw [hag]
      exact hrd
  cases n with
  | zero => cases hok
  | succ n =>
    unfold okT at hok
    unfold Value.okWide at hv
    split at hok
    · rename_i ht
      rw [ht] at hv
      refine one (fun cs he => ?_) (by unfold agg?; rw [ht])
      subst he
      simp [Cell.okWide, Cell.ok, ht] at hv
    · rename_i ht
      rw [ht] at hv
      refine one (fun cs he => ?_) (by unfold agg?; rw [ht])
      subst he
      simp [Cell.okWide, Cell.ok, ht] at hv
    · rename_i k ht
      rw [ht] at hv
      refine one (fun cs he => ?_) (by unfold agg?; rw [ht])
      subst he
      simp [Cell.okWide, Cell.ok, ht] at hv
    · rename_i e ht
      rw [ht] at hv
      refine one (fun cs he => ?_) (by unfold agg?; rw [ht])
      subst he
      simp [Cell.okWide, Cell.ok, ht] at hv
    · rename_i fs ht
      rw [ht] at hv
      obtain ⟨cs, rfl, _, _⟩ := hv
      have hrow : RowRel m' vs cs := hrow
      refine ⟨m', M', .agg vs, l, .agg vs cs hrow.1 (fun i a c h1 h2 => (hrow.2 i a c h1 h2).1) (fun i c h2 => ?_), ?_⟩
      · have hi : i < vs.length := by
          have h1 := hrow.1
          rcases Nat.lt_or_ge i cs.size with h | h
          · omega
          · rw [Array.getElem?_eq_none h] at h2; cases h2
        exact (hrow.2 i vs[i] c (List.getElem?_eq_getElem hi) h2).2
      · unfold RdV agg?
        rw [ht]
        exact ⟨vs, rfl, hrd⟩
    · cases hok

theorem lay_args {n : Nat} {r : Reach} {base : Nat} : ∀ (ts : List TypeId) (vs : List Value) (ds : List (DataW H)) (ps : List MemPlace), (ts.all (okT P n)) = true → (∀ (j : Nat) t v, ts[j]? = some t → vs[j]? = some v → Value.okWide P W r base t v) →
    DataW.TrodAll enc P W 0 (fun _ => true) true ts vs ds ps → ∀ m M, MemRel m M W → RoM m M → ∃ (m' : Plc) (M' : Mem) (as : List AVal), Laid W m M m' M' ∧ ArgsRel m' as vs ∧ RdAll P M' ts as ds := by
  intro ts
  induction ts with
  | nil =>
    intro vs ds ps _ _ h m M hM hr
    obtain ⟨rfl, rfl, rfl⟩ := trodAll_nil h
    exact ⟨m, M, [], Laid.refl hM hr, ⟨rfl, fun i v c hv => by simp at hv⟩, trivial⟩
  | cons t ts ih =>
    intro vs ds ps hok hval h m M hM hr
    obtain ⟨v, vs, d, ds, a, b, rfl, rfl, rfl, h1, h2⟩ := trodAll_cons h
    simp only [List.all_cons, Bool.and_eq_true] at hok
    obtain ⟨m1, M1, a1, l1, hr1, hd1⟩ := lay_value hok.1 (hval 0 t v rfl rfl) h1 hM hr
    obtain ⟨m2, M2, as, l2, hr2, hd2⟩ := ih vs ds b hok.2 (fun j t' v' ht hv => hval (j + 1) t' v' (by simpa using ht) (by simpa using hv)) h2 m1 M1 l1.mem l1.ro
    refine ⟨m2, M2, a1 :: as, l1.trans l2, ⟨by simp [hr2.1], fun i u c hu hc => ?_⟩, hd1.mono l2.sub, hd2⟩
    cases i with
    | zero => cases hu; cases hc; exact hr1.mono l2.le
    | succ i => exact hr2.2 i u c (by simpa using hu) (by simpa using hc)

/-- All that was there stays, where nothing of it may be written. -/
theorem below_of_ro {w w' : World} {m m' : Plc} {M M' : Mem} (hr : RoM m M) (h : Fr m M w m' M' w') : Below w.heap.size w w' :=
  ⟨h.os, h.tape, h.output, h.size, fun k hk => h.kept k hk (hr.not_wr k)⟩

/-- A law that the evaluator answers with 'true', whatever data it is given. -/
theorem law_calls {call : Caller} (hcall : CallOk P call) {f : FuncId} {n : Nat} {ts : List TypeId} {args : List Value} {ds : List (DataW H)} {ps : List MemPlace} {r : Reach} {base : Nat} (hok : (ts.all (okT P n)) = true)
    (hval : ∀ (j : Nat) t v, ts[j]? = some t → args[j]? = some v → Value.okWide P W r base t v) (hA : DataW.TrodAll enc P W 0 (fun _ => true) true ts args ds ps)
    (hlaw : ∀ (M : Mem) (as : List AVal), M.Fine → RdAll P M ts as ds → ∃ M', call f as M = some (.bool true, M')) :
    Calls P f args.toArray W fun e W' => e = .returned (.bool true) ∧ Below W.heap.size W W' := by
  obtain ⟨m, M, as, l, hrel, hrd⟩ := lay_args ts args ds ps hok hval hA _ _ (memRel_empty W) RoM.none
  obtain ⟨M', h⟩ := hlaw M as (fun id b hb => (l.mem.block id b hb).1) hrd
  refine ((hcall f as M _ M' h).2 m W args l.mem hrel).mono ?_
  rintro e W' ⟨m', c, rfl, hv, _, hf⟩
  rw [hv.bool_inv]
  exact ⟨rfl, below_of_ro l.ro hf⟩

end
end Go.VE
