/-
  What data arguments read as: slices as rows, structs by their fields, whole numbers.
-/
import Derived.Test.YtiikicpepnaghaaGreatDoorVeObj2
set_option linter.unusedSimpArgs false
set_option linter.unusedVariables false
namespace Go.VE
open Go.ChangeShapes Go.WideShapes Go.RowKit Go.ChangeAt Go.Lib
section
variable {H : Type} {P : Program} {M : Mem}

theorem rd_int {t : TypeId} {vs : List AVal} {d : DataW H} {k : IntKind} (h : Rd P M t vs d) (ht : P.underlying t = some (.int k)) : ∃ n, vs = [.int k n] ∧ (Lit.int k n).wf = true := by
  cases h <;> rename_i h1 <;> first
    | (rw [ht] at h1; cases h1; exact ⟨_, rfl, by assumption⟩)
    | (exfalso; simp_all)
theorem rd_bool {t : TypeId} {vs : List AVal} {d : DataW H} (h : Rd P M t vs d) (ht : P.underlying t = some .bool) : ∃ b, vs = [.bool b] := by
  cases h <;> first
    | exact ⟨_, rfl⟩
    | (exfalso; simp_all)
theorem rd_str {t : TypeId} {vs : List AVal} {d : DataW H} (h : Rd P M t vs d) (ht : P.underlying t = some .string) : ∃ s, vs = [.str s] ∧ s.length ≤ maxLen := by
  cases h <;> first
    | exact ⟨_, rfl, by assumption⟩
    | (exfalso; simp_all)

theorem win_row {cs : List AVal} {off sz : Nat} : ∀ n, off + n * sz ≤ cs.length → (((List.range n).map fun i => (cs.drop (off + i * sz)).take sz)).flatten = (cs.drop off).take (n * sz) := by
  intro n
  induction n with
  | zero => intro _; simp
  | succ n ih =>
    intro h
    rw [Nat.succ_mul] at h
    rw [List.range_succ, List.map_append, List.flatten_append, ih (by omega), Nat.succ_mul, List.take_add, List.drop_drop]
    simp

/-- A slice of data: its rows, each of which reads as data. -/
theorem rd_slice {t e : TypeId} {vs : List AVal} {d : DataW H} {sz : Nat} (h : Rd P M t vs d) (ht : P.underlying t = some (.slice e)) (hc : P.cellsOf e = sz) :
    ∃ v rows, vs = [v] ∧ Sl M v sz rows ∧ rows.length ≤ maxLen ∧ ∀ r ∈ rows, ∃ d' : DataW H, Rd P M e r d' := by
  cases h with
  | nil _ => exact ⟨_, [], rfl, .inl ⟨rfl, .inl rfl⟩, Nat.zero_le _, fun r hr => by cases hr⟩
  | empty _ => exact ⟨_, [], rfl, .inl ⟨rfl, .inr rfl⟩, Nat.zero_le _, fun r hr => by cases hr⟩
  | slice h1 hg hl he hcap h0 hmx hsz hel =>
    rename_i e' id off len cap cs elems spare
    rw [ht] at h1
    cases h1
    subst hc
    have hlen : len ≤ cap := by omega
    have hle : len * P.cellsOf e ≤ cap * P.cellsOf e := Nat.mul_le_mul_right _ hlen
    refine ⟨_, (List.range len).map fun i => (cs.drop (off + i * P.cellsOf e)).take (P.cellsOf e), rfl, .inr ⟨⟨id, off, 0, off + cap * P.cellsOf e⟩, cap, true, by simp, by simpa using hlen, ?_, cs, 1, 0, hg, Nat.le_refl _, ?_, ?_⟩, by simp; omega, ?_⟩
    · intro r hr
      obtain ⟨i, hi, rfl⟩ := List.mem_map.mp hr
      have hi := List.mem_range.mp hi
      have : i * P.cellsOf e + P.cellsOf e ≤ cap * P.cellsOf e := by rw [← Nat.succ_mul]; exact Nat.mul_le_mul_right _ (by omega)
      rw [List.length_take, List.length_drop, hl]; omega
    · rw [win_row len (by rw [hl]; omega)]
      show off + ((cs.drop off).take (len * P.cellsOf e)).length ≤ off + cap * P.cellsOf e
      rw [List.length_take]; omega
    · rw [win_row len (by rw [hl]; omega)]
      show (cs.drop off).take ((cs.drop off).take (len * P.cellsOf e)).length = _
      rw [List.length_take, List.length_drop, hl, Nat.min_eq_left (by omega)]
    · intro r hr
      obtain ⟨i, hi, rfl⟩ := List.mem_map.mp hr
      have hi := List.mem_range.mp hi
      have hil : i < (elems ++ spare).length := by rw [List.length_append]; omega
      exact ⟨_, hel i _ (List.getElem?_eq_getElem hil)⟩
  | bool _ h1 => rw [ht] at h1; cases h1
  | int _ h1 _ => rw [ht] at h1; cases h1
  | str _ h1 _ => rw [ht] at h1; cases h1
  | agg h1 _ _ _ => rw [ht] at h1; cases h1

/-- A struct of data: each field reads as data. -/
theorem rd_struct {t : TypeId} {vs : List AVal} {d : DataW H} {fs : Array Field} {l : List (TypeId × Nat × Nat)} (h : Rd P M t vs d) (ht : P.underlying t = some (.struct fs)) (hl : (fs.toList.map fun f => (f.type, f.offset, P.cellsOf f.type)) = l) :
    vs.length = P.cellsOf t ∧ ∀ tt o n, (tt, o, n) ∈ l → ∃ d' : DataW H, Rd P M tt ((vs.drop o).take n) d' := by
  cases h with
  | agg h1 h2 h3 h4 =>
    rename_i fs' ds
    rw [ht] at h1
    cases h1
    refine ⟨h2, fun tt o n hm => ?_⟩
    rw [← hl] at hm
    obtain ⟨f, hf, he⟩ := List.mem_map.mp hm
    obtain ⟨i, hi⟩ := List.getElem?_of_mem hf
    have hil : i < ds.length := by
      have := (List.getElem?_eq_some_iff.mp hi).1
      simpa [h3] using this
    simp only [Prod.mk.injEq] at he
    obtain ⟨rfl, rfl, rfl⟩ := he
    exact ⟨_, h4 i f _ hi (List.getElem?_eq_getElem hil)⟩
  | bool _ h1 => rw [ht] at h1; cases h1
  | int _ h1 _ => rw [ht] at h1; cases h1
  | str _ h1 _ => rw [ht] at h1; cases h1
  | nil h1 => rw [ht] at h1; cases h1
  | empty h1 => rw [ht] at h1; cases h1
  | slice h1 _ _ _ _ _ _ _ _ => rw [ht] at h1; cases h1

/-- Rows, one by one. -/
theorem rows_of {α : Type} {row : α → List AVal} {rows : List (List AVal)} {Q : α → Prop} (h : ∀ r ∈ rows, ∃ a, r = row a ∧ Q a) : ∃ l : List α, rows = l.map row ∧ ∀ a ∈ l, Q a := by
  induction rows with
  | nil => exact ⟨[], rfl, fun a ha => by cases ha⟩
  | cons r t ih =>
    obtain ⟨a, rfl, ha⟩ := h r (List.mem_cons_self ..)
    obtain ⟨l, rfl, hl⟩ := ih (fun r hr => h r (List.mem_cons_of_mem _ hr))
    exact ⟨a :: l, rfl, fun b hb => by
      rcases List.mem_cons.mp hb with rfl | hb
      · exact ha
      · exact hl b hb⟩

/-- An argument of a plain type. -/
theorem rdV_one {t : TypeId} {a : AVal} {d : DataW H} (ht : agg? P t = some false) (h : RdV P M t a d) : Rd P M t [a] d := by
  unfold RdV at h; rw [ht] at h; exact h
theorem rdV_agg {t : TypeId} {a : AVal} {d : DataW H} (ht : agg? P t = some true) (h : RdV P M t a d) : ∃ vs, a = .agg vs ∧ Rd P M t vs d := by
  unfold RdV at h; rw [ht] at h; exact h
theorem rdAll_nil {as : List AVal} {ds : List (DataW H)} (h : RdAll P M [] as ds) : as = [] := by
  cases as <;> cases ds <;> first | rfl | cases h
theorem rdAll_cons {t : TypeId} {ts : List TypeId} {as : List AVal} {ds : List (DataW H)} (h : RdAll P M (t :: ts) as ds) : ∃ a as' d ds', as = a :: as' ∧ ds = d :: ds' ∧ RdV P M t a d ∧ RdAll P M ts as' ds' := by
  cases as with
  | nil => cases ds <;> cases h
  | cons a as => cases ds with
    | nil => cases h
    | cons d ds => exact ⟨_, _, _, _, rfl, rfl, h.1, h.2⟩
end
end Go.VE
