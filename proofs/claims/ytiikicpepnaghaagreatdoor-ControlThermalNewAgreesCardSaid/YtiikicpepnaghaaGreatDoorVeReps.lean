/-
  Words for walks: guards that are not decided, slices as rows of cells, memory that grew.
-/
import Derived.Test.YtiikicpepnaghaaGreatDoorVeLaw
import Derived.Test.YtiikicpepnaghaaGreatDoorVeCut
set_option linter.unusedSimpArgs false
set_option linter.unusedVariables false
namespace Go.VE

section
variable {P : Program} {C : Caller} {M M' : Mem} {k : AVal → Mem → Res} {v x y : AVal}

/-! Guards -/

/-- A value that is there only where the guard holds. -/
def sel : Option Bool → AVal → AVal
  | some true, v => v
  | _, _ => skipVal
theorem sel_t : sel (some true) v = v := Eq.trans rfl rfl
theorem sel_f : sel (some false) v = skipVal := Eq.trans rfl rfl
theorem stepK_val (g : Bool) : stepK C M (some g) (.val v M) k = k (sel (some g) v) M := by cases g <;> exact Eq.trans rfl rfl
theorem stepK_ok {r : OpR} : stepK C M (some true) r k = onOpK C M k r := Eq.trans rfl rfl
theorem stepK_no {r : OpR} : stepK C M (some false) r k = k skipVal M := Eq.trans rfl rfl
theorem wantT (b : Bool) : wantB true (.bool b) = some b := by cases b <;> exact Eq.trans rfl rfl
theorem wantF (b : Bool) : wantB false (.bool b) = some (!b) := by cases b <;> exact Eq.trans rfl rfl
theorem wantS (w : Bool) : wantB w skipVal = some false := Eq.trans rfl rfl
theorem wantTc (g b : Bool) : wantB true (sel (some g) (.bool b)) = some (g && b) := by cases g <;> cases b <;> exact Eq.trans rfl rfl
theorem wantFc (g b : Bool) : wantB false (sel (some g) (.bool b)) = some (g && !b) := by cases g <;> cases b <;> exact Eq.trans rfl rfl
theorem pick_b (a : Bool) : evPick M (.bool a) x y = .val (cond a x y) M := by cases a <;> exact Eq.trans rfl rfl
theorem sel_or (a b : Bool) : cond a (AVal.bool true) (sel (some (!a)) (AVal.bool b)) = AVal.bool (a || b) := by cases a <;> exact Eq.trans rfl rfl
theorem sel_and (a b : Bool) : cond a (sel (some a) (AVal.bool b)) (AVal.bool false) = AVal.bool (a && b) := by cases a <;> exact Eq.trans rfl rfl
theorem step_or (g a b : Bool) : stepK C M (some g) (.val (cond a (AVal.bool true) (sel (some (g && !a)) (AVal.bool b))) M) k = k (sel (some g) (AVal.bool (a || b))) M := by
  cases g <;> cases a <;> exact Eq.trans rfl rfl
theorem step_and (g a b : Bool) : stepK C M (some g) (.val (cond a (sel (some (g && a)) (AVal.bool b)) (AVal.bool false)) M) k = k (sel (some g) (AVal.bool (a && b))) M := by
  cases g <;> cases a <;> exact Eq.trans rfl rfl

/-! What follows is not looked at before its turn (rules of congruence for a walk) -/
theorem stepK_cg {g g' : Option Bool} {r r' : OpR} (hg : g = g') (hr : g' = some true → r = r') : stepK C M g r k = stepK C M g' r' k := by
  subst hg
  cases g with
  | none => rfl
  | some b => cases b with
    | false => rfl
    | true => rw [hr rfl]
theorem onOpK_cg {r r' : OpR} (hr : r = r') : onOpK C M k r = onOpK C M k r' := by rw [hr]
theorem callK_cg {r r' : Option (AVal × Mem)} (hr : r = r') : callK k r = callK k r' := by rw [hr]
theorem condK_cg {a b : Res} {x x' : AVal} (hr : x = x') : condK x a b = condK x' a b := by rw [hr]
theorem onStillK_cg {b b' : Bool} {r : Res} (hr : b = b') : onStillK b r = onStillK b' r := by rw [hr]

theorem updP_updP {α : Type} (p : Pth) : ∀ (t : Tr α) (a b : α), Tr.updP p (Tr.updP p t a) b = Tr.updP p t b := by
  induction p with
  | here => intro t a b; cases t <;> rfl
  | left p ih =>
    intro t a b
    cases t with
    | leaf => show Tr.node none (Tr.updP p (Tr.updP p .leaf a) b) .leaf = Tr.node none (Tr.updP p .leaf b) .leaf; rw [ih]
    | node v l r => show Tr.node v (Tr.updP p (Tr.updP p l a) b) r = Tr.node v (Tr.updP p l b) r; rw [ih]
  | right p ih =>
    intro t a b
    cases t with
    | leaf => show Tr.node none .leaf (Tr.updP p (Tr.updP p .leaf a) b) = Tr.node none .leaf (Tr.updP p .leaf b); rw [ih]
    | node v l r => show Tr.node v l (Tr.updP p (Tr.updP p r a) b) = Tr.node v l (Tr.updP p r b); rw [ih]
theorem Mem.set_set (M : Mem) (id : Nat) (b c : ABlock) : (M.set id b).set id c = M.set id c := by
  show Mem.mk M.next (Tr.updP (pathOf id) (Tr.updP (pathOf id) M.tr b) c) = Mem.mk M.next (Tr.updP (pathOf id) M.tr c)
  rw [updP_updP]

/-! Memory that grew -/

/-- Nothing that was there has changed. -/
structure Gr (M M' : Mem) : Prop where
  next : M.next ≤ M'.next
  same : ∀ id, id < M.next → M'.get id = M.get id

theorem Gr.refl (M : Mem) : Gr M M := ⟨Nat.le_refl _, fun _ _ => rfl⟩
theorem Gr.trans {M1 M2 M3 : Mem} (h : Gr M1 M2) (h' : Gr M2 M3) : Gr M1 M3 :=
  ⟨Nat.le_trans h.next h'.next, fun id hid => (h'.same id (Nat.lt_of_lt_of_le hid h.next)).trans (h.same id hid)⟩
theorem Gr.alloc (M : Mem) (b : ABlock) : Gr M (M.alloc b) := ⟨Nat.le_succ _, fun id hid => by rw [Mem.get_alloc, if_neg (by omega)]⟩
/-- A block of one's own is written. -/
theorem Gr.set {M0 M : Mem} (h : Gr M0 M) {id : Nat} (hid : M0.next ≤ id) (b : ABlock) : Gr M0 (M.set id b) :=
  ⟨h.next, fun i hi => by rw [Mem.get_set, if_neg (by omega)]; exact h.same i hi⟩
theorem Gr.get {b : ABlock} (h : Gr M M') (hf : M.Fine) {id : Nat} (hg : M.get id = some b) : M'.get id = some b := (h.same id (hf id b hg)).trans hg

theorem Mem.Fine.alloc (h : M.Fine) (b : ABlock) : (M.alloc b).Fine := by
  intro id c hc
  rw [Mem.get_alloc] at hc
  split at hc
  · rename_i hi; subst hi; exact Nat.lt_succ_self _
  · exact Nat.lt_succ_of_lt (h id c hc)
theorem Mem.Fine.set (h : M.Fine) {id : Nat} (hid : id < M.next) (b : ABlock) : (M.set id b).Fine := by
  intro i c hc
  rw [Mem.get_set] at hc
  split at hc
  · rename_i hi; subst hi; exact hid
  · exact h i c hc

/-! Cells -/

/-- At p lie these cells. -/
def El (M : Mem) (p : AAddr) (r : List AVal) : Prop :=
  ∃ cs ep lo, M.get p.id = some (.cells cs ep lo) ∧ lo ≤ p.ep ∧ p.off + r.length ≤ p.lim ∧ (cs.drop p.off).take r.length = r

theorem El.ext {p : AAddr} {r : List AVal} (h : El M p r) (hf : M.Fine) (he : Gr M M') : El M' p r := by
  obtain ⟨cs, ep, lo, h1, h2, h3, h4⟩ := h
  exact ⟨cs, ep, lo, he.get hf h1, h2, h3, h4⟩

theorem El.cell {p : AAddr} {r : List AVal} (h : El M p r) {i : Nat} (hi : r[i]? = some v) : ∃ cs ep lo, M.get p.id = some (.cells cs ep lo) ∧ lo ≤ p.ep ∧ p.off + i + 1 ≤ p.lim ∧ cs[p.off + i]? = some v := by
  obtain ⟨cs, ep, lo, h1, h2, h3, h4⟩ := h
  have hlt : i < r.length := by
    rcases Nat.lt_or_ge i r.length with h | h
    · exact h
    · rw [List.getElem?_eq_none h] at hi; cases hi
  refine ⟨cs, ep, lo, h1, h2, by omega, ?_⟩
  rw [← h4, List.getElem?_take, if_pos hlt, List.getElem?_drop] at hi
  exact hi

theorem El.load {p : AAddr} {r : List AVal} (h : El M p r) {t : TypeId} (ht : agg? P t = some false) (i : Nat) (hi : r[i]? = some v) : evLoad P M t (.ptr ⟨p.id, p.off + i, p.ep, p.lim⟩) = .val v M := by
  obtain ⟨cs, ep, lo, h1, h2, h3, h4⟩ := h.cell hi
  exact load_one (a := ⟨p.id, p.off + i, p.ep, p.lim⟩) ht h1 h2 h3 h4

theorem El.load0 {p : AAddr} {r : List AVal} (h : El M p r) {t : TypeId} (ht : agg? P t = some false) (hi : r[0]? = some v) : evLoad P M t (.ptr p) = .val v M := h.load ht 0 hi

theorem El.loadAgg {p : AAddr} {r : List AVal} (h : El M p r) {t : TypeId} (ht : agg? P t = some true) (hn : size? P t = some r.length) : evLoad P M t (.ptr p) = .val (.agg r) M := by
  obtain ⟨cs, ep, lo, h1, h2, h3, h4⟩ := h
  rw [load_agg ht hn h1 h2 h3, h4]

theorem El.loadAggAt {p : AAddr} {r : List AVal} (h : El M p r) {t : TypeId} (ht : agg? P t = some true) {n : Nat} (hn : size? P t = some n) (i : Nat) (hi : i + n ≤ r.length) : evLoad P M t (.ptr ⟨p.id, p.off + i, p.ep, p.lim⟩) = .val (.agg ((r.drop i).take n)) M := by
  obtain ⟨cs, ep, lo, h1, h2, h3, h4⟩ := h
  rw [load_agg (a := ⟨p.id, p.off + i, p.ep, p.lim⟩) ht hn h1 h2 (by show p.off + i + n ≤ p.lim; omega)]
  congr 2
  show (cs.drop (p.off + i)).take n = (r.drop i).take n
  rw [← h4, List.drop_take, List.take_take, List.drop_drop, Nat.min_eq_left (by omega)]

/-- A struct is boxed: made, and then written. -/
theorem box_agg {t : TypeId} {n : Nat} {vs : List AVal} (hs : (zero P t).solid = true) (hz : (zero P t).cells.length = n) (hn : size? P t = some n) (hl : vs.length = n) (h0 : 0 < n) (hf : M.Fine) :
    ∃ M1 M2, evNew M (zero P t) = .val (.ptr ⟨M.next, 0, 0, n⟩) M1 ∧ evStore P M1 t (.ptr ⟨M.next, 0, 0, n⟩) (.agg vs) = .val (.tuple []) M2 ∧ Gr M M2 ∧ M2.Fine ∧ El M2 ⟨M.next, 0, 0, n⟩ vs ∧ M2.get M.next = some (.cells vs 0 0) ∧ M2.next = M.next + 1 := by
  refine ⟨M.alloc (.cells (zero P t).cells 0 0), (M.alloc (.cells (zero P t).cells 0 0)).set M.next (.cells vs 0 0), by rw [evNew_one hs, hz], ?_, (Gr.alloc M _).set (Nat.le_refl _) _, (hf.alloc _).set (Nat.lt_succ_self _) _, ⟨vs, 0, 0, by rw [Mem.get_set, if_pos rfl], Nat.le_refl _, by simp [hl], by simp⟩, by rw [Mem.get_set, if_pos rfl], rfl⟩
  unfold evStore storeVar
  have e0 : Nat.beq (AVal.agg vs).cells.length n = true := by show Nat.beq vs.length n = true; rw [hl]; exact Nat.beq_refl n
  simp only [AVal.solid, hn, e0]
  unfold storeCells
  rw [Mem.get_alloc, if_pos rfl]
  have e2 : Nat.ble (0 + (AVal.agg vs).cells.length) n = true := Nat.ble_eq_true_of_le (by show 0 + vs.length ≤ n; omega)
  have e3 : overL 0 (zero P t).cells (AVal.agg vs).cells = vs := by
    show appL vs (dropL (lenL vs) (zero P t).cells) = vs
    rw [appL_eq, dropL_eq, lenL_eq, List.drop_of_length_le (by omega), List.append_nil]
  simp only [Nat.beq_refl, e2, e3]
  rfl

/-- A struct's value is boxed. -/
theorem new_agg {vs : List AVal} (hf : M.Fine) : ∃ M1, evNew M (.agg vs) = .val (.ptr ⟨M.next, 0, 0, vs.length⟩) M1 ∧ Gr M M1 ∧ M1.Fine ∧ El M1 ⟨M.next, 0, 0, vs.length⟩ vs ∧ M1.next = M.next + 1 :=
  ⟨M.alloc (.cells vs 0 0), evNew_one rfl, Gr.alloc M _, hf.alloc _, ⟨vs, 0, 0, by rw [Mem.get_alloc, if_pos rfl], Nat.le_refl _, by simp, by simp⟩, rfl⟩

/-- A call under a guard, that leaves the memory alone. -/
theorem step_call {g : Bool} {f : FuncId} {args : List AVal} (h : C f args M = some (v, M)) : stepK C M (some g) (.call f args) k = k (sel (some g) v) M := by
  cases g with
  | false => exact Eq.trans rfl rfl
  | true => show callK k (C f args M) = _; rw [h]; exact Eq.trans rfl rfl

/-! Slices -/

theorem flat_len {α} {sz : Nat} : ∀ {rows : List (List α)}, (∀ r ∈ rows, r.length = sz) → rows.flatten.length = rows.length * sz := by
  intro rows
  induction rows with
  | nil => intro _; simp
  | cons x t ih =>
    intro h
    rw [List.flatten_cons, List.length_append, h x (List.mem_cons_self ..), ih (fun r hr => h r (List.mem_cons_of_mem _ hr)), List.length_cons, Nat.add_mul]; omega
theorem flat_drop {α} {sz : Nat} : ∀ {rows : List (List α)} (i : Nat), (∀ r ∈ rows, r.length = sz) → rows.flatten.drop (i * sz) = (rows.drop i).flatten := by
  intro rows
  induction rows with
  | nil => intro i _; simp
  | cons x t ih =>
    intro i h
    cases i with
    | zero => simp
    | succ i =>
      have hx : x.length = sz := h x (List.mem_cons_self ..)
      rw [List.flatten_cons, List.drop_succ_cons, ← ih i (fun r hr => h r (List.mem_cons_of_mem _ hr)), Nat.add_mul, Nat.one_mul, Nat.add_comm, ← List.drop_drop, ← hx, List.drop_left]
theorem flat_take {α} {sz : Nat} : ∀ {rows : List (List α)} (i : Nat), (∀ r ∈ rows, r.length = sz) → rows.flatten.take (i * sz) = (rows.take i).flatten := by
  intro rows
  induction rows with
  | nil => intro i _; simp
  | cons x t ih =>
    intro i h
    cases i with
    | zero => simp
    | succ i =>
      have hx : x.length = sz := h x (List.mem_cons_self ..)
      rw [List.flatten_cons, List.take_succ_cons, List.flatten_cons, ← ih i (fun r hr => h r (List.mem_cons_of_mem _ hr)), Nat.add_mul, Nat.one_mul, Nat.add_comm (i * sz), ← hx, List.take_length_add_append]
theorem flat_row {α} {sz : Nat} {rows : List (List α)} {i : Nat} {r : List α} (h : ∀ r ∈ rows, r.length = sz) (hr : rows[i]? = some r) : (rows.flatten.drop (i * sz)).take sz = r := by
  obtain ⟨hi, rfl⟩ := List.getElem?_eq_some_iff.mp hr
  rw [flat_drop i h, List.drop_eq_getElem_cons hi, List.flatten_cons]
  have := h rows[i] (List.getElem_mem hi)
  rw [← this, List.take_left]

/-- v is a slice whose elements are these rows of sz cells each. -/
def Sl (M : Mem) (v : AVal) (sz : Nat) (rows : List (List AVal)) : Prop :=
  (rows = [] ∧ (v = .nilSlice ∨ v = .emptySl)) ∨
    ∃ a cap ex, v = .slice a sz rows.length cap ex ∧ rows.length ≤ cap ∧ (∀ r ∈ rows, r.length = sz) ∧ El M a rows.flatten

theorem Sl.ext {sz : Nat} {rows : List (List AVal)} (h : Sl M v sz rows) (hf : M.Fine) (he : Gr M M') : Sl M' v sz rows := by
  rcases h with h | ⟨a, cap, ex, h1, hc, h2, h3⟩
  · exact .inl h
  · exact .inr ⟨a, cap, ex, h1, hc, h2, h3.ext hf he⟩

theorem Sl.len {sz : Nat} {rows : List (List AVal)} (h : Sl M v sz rows) {t e : TypeId} (ht : P.underlying t = some (.slice e)) (M' : Mem) : Go.VE.builtin P M' .len #[t] [v] = .val (.int .i64 (rows.length : Int)) M' := by
  rcases h with ⟨rfl, rfl | rfl⟩ | ⟨a, cap, ex, rfl, _, _⟩ <;> simp [Go.VE.builtin, lenV, ht, OpR.ofOpt]

theorem Sl.idx {sz : Nat} {rows : List (List AVal)} (h : Sl M v sz rows) {t e : TypeId} (ht : P.underlying t = some (.slice e)) (hs : size? P e = some sz) {i : Nat} {r : List AVal} (hr : rows[i]? = some r) (M' : Mem) :
    ∃ p, evIndexAddr P M' t v (.int .i64 (i : Int)) = .val (.ptr p) M' ∧ El M p r := by
  have hi : i < rows.length := by
    rcases Nat.lt_or_ge i rows.length with h | h
    · exact h
    · rw [List.getElem?_eq_none h] at hr; cases hr
  rcases h with ⟨rfl, _⟩ | ⟨a, cap, ex, rfl, hc, hsz, cs, ep, lo, g1, g2, g3, g4⟩
  · cases hr
  · have hrl : r.length = sz := hsz r (List.mem_of_getElem? hr)
    have hfl := flat_len hsz
    refine ⟨⟨a.id, a.off + i * sz, a.ep, a.lim⟩, ?_, cs, ep, lo, g1, g2, ?_, ?_⟩
    · have e1 : elemOf P t = some e := by unfold elemOf; rw [ht]
      have e2 : natIn rows.length (.int .i64 (i : Int)) = some i := by
        show natIn rows.length (.int .i64 (.ofNat i)) = _
        simp only [natIn, Nat.ble_eq_true_of_le (Nat.le_of_lt hi)]
      have e3 : Nat.blt i rows.length = true := by unfold Nat.blt; exact Nat.ble_eq_true_of_le hi
      unfold evIndexAddr
      simp only [e1, Option.bind_some, hs, Nat.beq_refl, e2, e3]
    · show a.off + i * sz + r.length ≤ a.lim
      have : (i + 1) * sz ≤ rows.length * sz := Nat.mul_le_mul_right _ hi
      rw [Nat.add_mul] at this; omega
    · show (cs.drop (a.off + i * sz)).take r.length = r
      have h1 : (cs.drop (a.off + i * sz)).take sz = (rows.flatten.drop (i * sz)).take sz := by
        rw [← g4, List.drop_take, List.take_take, List.drop_drop, Nat.min_eq_left]
        have : (i + 1) * sz ≤ rows.length * sz := Nat.mul_le_mul_right _ hi
        rw [Nat.add_mul] at this; omega
      rw [hrl, h1]; exact flat_row hsz hr

theorem natIn_nat {hi i : Nat} {q : IntKind} (h : i ≤ hi) : natIn hi (.int q (i : Int)) = some i := by
  show natIn hi (.int q (.ofNat i)) = _
  simp only [natIn, Nat.ble_eq_true_of_le h]

/-- The first i elements of a slice. -/
theorem Sl.take {sz : Nat} {rows : List (List AVal)} (h : Sl M v sz rows) {t e : TypeId} (ht : P.underlying t = some (.slice e)) (hs : size? P e = some sz) {i : Nat} (h0 : rows ≠ []) (hi : i ≤ rows.length) (M' : Mem) :
    ∃ v', evSlice P M' t v none (some (.int .i64 (i : Int))) none = .val v' M' ∧ Sl M v' sz (rows.take i) := by
  rcases h with ⟨rfl, _⟩ | ⟨a, cap, ex, rfl, hc, hsz, cs, ep, lo, g1, g2, g3, g4⟩
  · exact absurd rfl h0
  · have hp : 0 < rows.length := List.length_pos_iff.mpr h0
    have e1 : (elemOf P t).bind (size? P) = some sz := by unfold elemOf; rw [ht]; exact hs
    have e2 : Nat.blt 0 cap = true := by unfold Nat.blt; exact Nat.ble_eq_true_of_le (by omega)
    have hst : ∀ r ∈ rows.take i, r.length = sz := fun r hr => hsz r (List.mem_of_mem_take hr)
    have hfl := flat_len hsz
    have hft := flat_len hst
    rw [List.length_take, Nat.min_eq_left hi] at hft
    refine ⟨.slice { a with off := a.off + 0 * sz, lim := a.off + cap * sz } sz (i - 0) (cap - 0) (ex || false), ?_, .inr ⟨{ a with off := a.off + 0 * sz, lim := a.off + cap * sz }, cap - 0, ex || false, by rw [List.length_take, Nat.min_eq_left hi, Nat.sub_zero], by rw [List.length_take]; omega, hst, cs, ep, lo, g1, g2, ?_, ?_⟩⟩
    · unfold evSlice
      simp only [e1, Nat.beq_refl]
      unfold evSliceOf
      simp only [bound, natIn_nat (q := .i64) (Nat.le_trans hi hc), e2]
      rfl
    · show a.off + 0 * sz + (rows.take i).flatten.length ≤ a.off + cap * sz
      have : i * sz ≤ cap * sz := Nat.mul_le_mul_right _ (by omega)
      omega
    · show (cs.drop (a.off + 0 * sz)).take (rows.take i).flatten.length = (rows.take i).flatten
      have : i * sz ≤ rows.length * sz := Nat.mul_le_mul_right _ hi
      rw [Nat.zero_mul, Nat.add_zero, hft, ← flat_take i hsz, ← g4, List.take_take, Nat.min_eq_left (by omega)]

/-- What append takes from a slice. -/
theorem Sl.news {sz : Nat} {rows : List (List AVal)} (h : Sl M v sz rows) : newsOf M sz v = some rows.flatten := by
  rcases h with ⟨rfl, rfl | rfl⟩ | ⟨a, cap, ex, rfl, hc, hsz, cs, ep, lo, g1, g2, g3, g4⟩
  · rfl
  · rfl
  · unfold newsOf
    have hfl := flat_len hsz
    simp only [Nat.beq_refl]
    rw [loadCells_of g1 g2 (by omega), ← hfl, g4]

/-- A row of no elements, to append to. -/
theorem row0 {t e : TypeId} {sz : Nat} {z : List AVal} (ht : P.underlying t = some (.slice e)) (hz : zeroCells P e = some (sz, z)) : evBuildSliceR P M t 0 [] = .val (.slice ⟨M.next, 0, 0, 0⟩ sz 0 0 true) (M.alloc (.cells [] 0 0)) := by
  have e1 : elemOf P t = some e := by unfold elemOf; rw [ht]
  have e2 : Nat.ble (0 * sz) (2 ^ 20) = true := Nat.ble_eq_true_of_le (by omega)
  unfold evBuildSliceR
  simp only [e1, hz, e2]
  unfold fillRow repeatCells
  simp only [fillV]
  rfl

/-- Where v's block may lie. -/
def Bk (lo hi : Nat) (v : AVal) : Prop := ∀ a sz n cap ex, v = .slice a sz n cap ex → lo ≤ a.id ∧ a.id < hi
theorem Bk.nil (lo hi : Nat) : Bk lo hi .nilSlice := fun _ _ _ _ _ h => by cases h
theorem Bk.empty (lo hi : Nat) : Bk lo hi .emptySl := fun _ _ _ _ _ h => by cases h
theorem Bk.mk {lo hi : Nat} {a : AAddr} {sz n cap : Nat} {ex : Bool} (h : lo ≤ a.id) (h' : a.id < hi) : Bk lo hi (.slice a sz n cap ex) := fun _ _ _ _ _ e => by cases e; exact ⟨h, h'⟩
theorem Bk.mono {lo hi lo' hi' : Nat} {v : AVal} (h : Bk lo hi v) (h1 : lo' ≤ lo) (h2 : hi ≤ hi') : Bk lo' hi' v := fun a sz n cap ex e => ⟨Nat.le_trans h1 (h a sz n cap ex e).1, Nat.lt_of_lt_of_le (h a sz n cap ex e).2 h2⟩
theorem Sl.plain {M : Mem} {v : AVal} {sz : Nat} {rows : List (List AVal)} (h : Sl M v sz rows) : v.solid = true ∧ v.cells = [v] := by
  rcases h with ⟨_, rfl | rfl⟩ | ⟨a, cap, ex, rfl, _⟩ <;> exact ⟨rfl, rfl⟩

/-! Structs, built -/
theorem solid_int {k : IntKind} {n : Int} : (AVal.int k n).solid = true := rfl
theorem solid_bool {b : Bool} : (AVal.bool b).solid = true := rfl
theorem solid_str {b : List UInt8} : (AVal.str b).solid = true := rfl
theorem solid_ptr {a : AAddr} : (AVal.ptr a).solid = true := rfl
theorem solid_nilPtr : AVal.nilPtr.solid = true := rfl
theorem solid_nilSlice : AVal.nilSlice.solid = true := rfl
theorem solid_agg {l : List AVal} : (AVal.agg l).solid = true := rfl
theorem cells_int {k : IntKind} {n : Int} : (AVal.int k n).cells = [.int k n] := rfl
theorem cells_bool {b : Bool} : (AVal.bool b).cells = [.bool b] := rfl
theorem cells_str {b : List UInt8} : (AVal.str b).cells = [.str b] := rfl
theorem cells_ptr {a : AAddr} : (AVal.ptr a).cells = [.ptr a] := rfl
theorem cells_nilPtr : AVal.nilPtr.cells = [.nilPtr] := rfl
theorem cells_nilSlice : AVal.nilSlice.cells = [.nilSlice] := rfl
theorem cells_agg {l : List AVal} : (AVal.agg l).cells = l := rfl
def places (P : Program) (t : TypeId) : Option (List (Nat × Nat)) := match P.underlying t with
  | some (.struct fs) => fieldPlaces P fs
  | _ => none
def zeroC (P : Program) (t : TypeId) : Option (List AVal) := match zero? P t with
  | some z => match (ofVal z).solid with
    | true => some (ofVal z).cells
    | false => none
  | none => none
theorem build_eq {P : Program} {M : Mem} {t : TypeId} {ps : List (Nat × AVal)} {z : List AVal} {l : List (Nat × Nat)} (h1 : zeroC P t = some z) (h2 : places P t = some l) : evBuildR P M t ps = evAgg M (fillV (listAt l) z ps) := by
  unfold evBuildR
  unfold zeroC at h1
  cases hz : zero? P t with
  | none => rw [hz] at h1; cases h1
  | some v =>
    rw [hz] at h1
    simp only at h1 ⊢
    unfold evBuildZR
    cases hs : (ofVal v).solid with
    | false => rw [hs] at h1; cases h1
    | true =>
      rw [hs] at h1
      simp only at h1 ⊢
      cases h1
      unfold places at h2
      split at h2
      · rename_i fs ht
        rw [ht]
        simp only [h2]
      · cases h2

/-- A copy of a slice: appended to a row of no elements. -/
theorem Sl.clone {sz : Nat} {rows : List (List AVal)} {z : List AVal} (h : Sl M v sz rows) (hf : M.Fine) {t e : TypeId} (ht : P.underlying t = some (.slice e)) (hz : zeroCells P e = some (sz, z)) (h0 : 0 < sz) (hfit : fits P e rows.length = true) :
    ∃ M1 M2 w, evBuildSliceR P M t 0 [] = .val (.slice ⟨M.next, 0, 0, 0⟩ sz 0 0 true) M1 ∧ Go.VE.builtin P M1 .append #[t, t] [.slice ⟨M.next, 0, 0, 0⟩ sz 0 0 true, v] = .val w M2 ∧ Sl M2 w sz rows ∧ Gr M M2 ∧ M2.Fine ∧ Bk M.next M2.next w := by
  have hrs : ∀ r ∈ rows, r.length = sz := by
    rcases h with ⟨rfl, _⟩ | ⟨_, _, _, _, _, hsz, _⟩
    · intro r hr; cases hr
    · exact hsz
  have hfl := flat_len hrs
  have g1 : Gr M (M.alloc (.cells [] 0 0)) := Gr.alloc M _
  have hn := (h.ext hf g1).news
  have e1 : elemOf P t = some e := by unfold elemOf; rw [ht]
  have d1 : rows.flatten.length / sz = rows.length := by rw [hfl]; exact Nat.mul_div_cancel _ h0
  have d2 : Nat.beq (rows.flatten.length % sz) 0 = true := by rw [hfl, Nat.mul_mod_left]; rfl
  have hf1 : (M.alloc (.cells [] 0 0)).Fine := hf.alloc _
  have eb : Go.VE.builtin P (M.alloc (.cells [] 0 0)) .append #[t, t] [.slice ⟨M.next, 0, 0, 0⟩ sz 0 0 true, v] = appendTo P (M.alloc (.cells [] 0 0)) e sz (.slice ⟨M.next, 0, 0, 0⟩ sz 0 0 true) rows.length rows.flatten := by
    have t0 : (#[t, t][0]?).bind (elemOf P) = some e := e1
    have t1 : (#[t, t][1]?).bind P.underlying = some (.slice e) := ht
    unfold Go.VE.builtin
    simp only [t0, t1]
    unfold append
    simp only [hz]
    rw [hn]
    unfold appendAll
    simp only [d2, d1]
  cases rows with
  | nil =>
    refine ⟨_, M.alloc (.cells [] 0 0), .slice ⟨M.next, 0, 0, 0⟩ sz 0 0 true, row0 ht hz, ?_, .inr ⟨⟨M.next, 0, 0, 0⟩, 0, true, rfl, Nat.le_refl _, hrs, [], 0, 0, by rw [Mem.get_alloc, if_pos rfl], Nat.le_refl _, Nat.le_refl _, rfl⟩, g1, hf1, Bk.mk (Nat.le_refl _) (Nat.lt_succ_self _)⟩
    rw [eb]
    unfold appendTo
    have c1 : (fits P e (0 + ([] : List (List AVal)).length) && Nat.beq sz sz) = true := by rw [Nat.zero_add, hfit, Nat.beq_refl]; rfl
    simp only [c1]
    rfl
  | cons y r =>
    have hp : (y :: r).flatten ≠ [] := by
      intro hh; rw [hh] at hfl; simp only [List.length_nil, List.length_cons] at hfl
      rcases Nat.mul_eq_zero.mp hfl.symm with hh | hh <;> omega
    refine ⟨_, (M.alloc (.cells [] 0 0)).alloc (.cells (y :: r).flatten 0 0), .slice ⟨M.next + 1, 0, 0, (y :: r).flatten.length⟩ sz (y :: r).length (y :: r).length false, row0 ht hz, ?_, .inr ⟨⟨M.next + 1, 0, 0, (y :: r).flatten.length⟩, _, _, rfl, Nat.le_refl _, hrs, (y :: r).flatten, 0, 0, ?_, Nat.le_refl _, by simp, by rw [List.drop_zero, List.take_length]⟩, g1.trans (Gr.alloc _ _), hf1.alloc _, Bk.mk (Nat.le_succ _) (Nat.lt_succ_self _)⟩
    · rw [eb]
      unfold appendTo
      have c1 : (fits P e (0 + (y :: r).length) && Nat.beq sz sz) = true := by rw [Nat.zero_add, hfit, Nat.beq_refl]; rfl
      have c2 : Nat.ble (0 + (y :: r).length) 0 = false := rfl
      have c3 : loadCells (M.alloc (.cells [] 0 0)) ⟨M.next, 0, 0, 0⟩ (0 * sz) = some [] := by
        rw [loadCells_of (cs := []) (ep := 0) (lo := 0) (by rw [Mem.get_alloc, if_pos rfl]) (Nat.le_refl _) (by simp)]; simp
      simp only [c1, c2, c3]
      unfold appendOld appendNew
      simp only [Nat.zero_add, List.nil_append]
      rfl
    · rw [Mem.get_alloc]; exact if_pos rfl

end
section
variable {P : Program} {M0 M : Mem} {v x : AVal} {o : Nat}
/-- A row of one element, to append. -/
theorem row1 {t e : TypeId} {sz : Nat} {z : List AVal} (ht : P.underlying t = some (.slice e)) (hz : zeroCells P e = some (sz, z)) (hs : x.solid = true) (hx : x.cells.length = sz) (hb : sz ≤ 1000000) :
    evBuildSliceR P M t 1 [(0, x)] = .val (.slice ⟨M.next, 0, 0, x.cells.length⟩ sz 1 1 true) (M.alloc (.cells x.cells 0 0)) := by
  have e1 : elemOf P t = some e := by unfold elemOf; rw [ht]
  have e2 : Nat.ble (1 * sz) (2 ^ 20) = true := Nat.ble_eq_true_of_le (by omega)
  unfold evBuildSliceR
  simp only [e1, hz, e2]
  unfold fillRow
  have e3 : rowsV sz [(0, x)] 0 = some x.cells := by
    unfold rowsV rowsV
    simp [hs, hx]
  simp only [e3]
  rfl

/-- v is a slice of one's own, that ends where its block ends; the block is not o. -/
def Tip (M0 M : Mem) (o : Nat) (v : AVal) (sz n : Nat) (cs : List AVal) : Prop :=
  (v = .nilSlice ∧ n = 0 ∧ cs = []) ∨ ∃ id ep lo, v = .slice ⟨id, 0, ep, cs.length⟩ sz n n false ∧ M.get id = some (.cells cs ep lo) ∧ lo ≤ ep ∧ cs.length = n * sz ∧ M0.next ≤ id ∧ id ≠ o

theorem Tip.push {t e : TypeId} {sz n : Nat} {z cs news : List AVal} {r : AVal} (h : Tip M0 M o v sz n cs) (hf : M.Fine) (hg : Gr M0 M) (ho : o < M.next) (ht : P.underlying t = some (.slice e)) (hz : zeroCells P e = some (sz, z)) (h0 : 0 < sz) (hr : newsOf M sz r = some news) (hn : news.length = sz) (hfit : fits P e (n + 1) = true) (hfit1 : fits P e 1 = true) :
    ∃ v' M', Go.VE.builtin P M .append #[t, t] [v, r] = .val v' M' ∧ Tip M0 M' o v' sz (n + 1) (cs ++ news) ∧ Gr M0 M' ∧ M'.Fine ∧ M'.get o = M.get o ∧ M.next ≤ M'.next := by
  have e1 : elemOf P t = some e := by unfold elemOf; rw [ht]
  have d1 : news.length / sz = 1 := by rw [hn]; exact Nat.div_self h0
  have d2 : Nat.beq (news.length % sz) 0 = true := by rw [hn, Nat.mod_self]; rfl
  have eb : Go.VE.builtin P M .append #[t, t] [v, r] = appendTo P M e sz v 1 news := by
    have t0 : (#[t, t][0]?).bind (elemOf P) = some e := e1
    have t1 : (#[t, t][1]?).bind P.underlying = some (.slice e) := ht
    unfold Go.VE.builtin
    simp only [t0, t1]
    unfold append
    simp only [hz]
    rw [hr]
    unfold appendAll
    simp only [d2, d1]
  rw [eb]
  rcases h with ⟨rfl, rfl, rfl⟩ | ⟨id, ep, lo, rfl, g1, g2, g3, g4, g5⟩
  · refine ⟨.slice ⟨M.next, 0, 0, news.length⟩ sz 1 1 false, M.alloc (.cells news 0 0), ?_, .inr ⟨M.next, 0, 0, rfl, by rw [Mem.get_alloc, if_pos rfl]; rfl, Nat.le_refl _, by simp [hn], hg.next, by omega⟩, hg.trans (Gr.alloc _ _), hf.alloc _, by rw [Mem.get_alloc, if_neg (by omega)], Nat.le_succ _⟩
    unfold appendTo
    cases news with
    | nil => simp at hn; omega
    | cons a b =>
      simp only [hfit1]
      rfl
  · have hid := hf id _ g1
    refine ⟨.slice ⟨id, 0, ep + 1, cs.length + news.length⟩ sz (n + 1) (n + 1) false, M.set id (.cells (cs ++ news) (ep + 1) lo), ?_, .inr ⟨id, ep + 1, lo, by rw [List.length_append], by rw [Mem.get_set, if_pos rfl], by omega, by rw [List.length_append, g3, hn, Nat.add_mul, Nat.one_mul], g4, g5⟩, hg.set g4 _, hf.set hid _, by rw [Mem.get_set, if_neg (by omega)], Nat.le_refl _⟩
    unfold appendTo
    have c1 : (fits P e (n + 1) && Nat.beq sz sz) = true := by rw [hfit, Nat.beq_refl]; rfl
    have c2 : Nat.ble (n + 1) n = false := by
      cases hh : Nat.ble (n + 1) n with
      | false => rfl
      | true => have := Nat.le_of_ble_eq_true hh; omega
    simp only [c1, c2]
    unfold appendTip
    have c3 : Nat.beq (n * sz) cs.length = true := by rw [g3]; exact Nat.beq_refl _
    simp only [g1, Nat.beq_refl, c3, appL_eq, lenL_eq]

theorem row1_news {sz : Nat} (hx : x.cells.length = sz) : newsOf (M.alloc (.cells x.cells 0 0)) sz (.slice ⟨M.next, 0, 0, x.cells.length⟩ sz 1 1 true) = some x.cells := by
  unfold newsOf
  simp only [Nat.beq_refl]
  rw [loadCells_of (cs := x.cells) (ep := 0) (lo := 0) (by rw [Mem.get_alloc, if_pos rfl]) (Nat.le_refl _) (by simp [hx])]
  simp [← hx]

theorem Tip.ext {M' : Mem} {sz n : Nat} {cs : List AVal} (h : Tip M0 M o v sz n cs) (hf : M.Fine) (hg : Gr M M') : Tip M0 M' o v sz n cs := by
  rcases h with h | ⟨id, ep, lo, rfl, g1, g2, g3, g4, g5⟩
  · exact .inl h
  · exact .inr ⟨id, ep, lo, rfl, hg.get hf g1, g2, g3, g4, g5⟩
/-- The block o is written. -/
theorem Tip.set {sz n : Nat} {cs : List AVal} (h : Tip M0 M o v sz n cs) (b : ABlock) : Tip M0 (M.set o b) o v sz n cs := by
  rcases h with h | ⟨id, ep, lo, rfl, g1, g2, g3, g4, g5⟩
  · exact .inl h
  · exact .inr ⟨id, ep, lo, rfl, by rw [Mem.get_set, if_neg (by omega)]; exact g1, g2, g3, g4, g5⟩
theorem Tip.sl {sz : Nat} {rows : List (List AVal)} (h : Tip M0 M o v sz rows.length rows.flatten) (hr : ∀ r ∈ rows, r.length = sz) : Sl M v sz rows := by
  rcases h with ⟨rfl, h, _⟩ | ⟨id, ep, lo, rfl, g1, g2, g3, g4, g5⟩
  · exact .inl ⟨List.length_eq_zero_iff.mp h, .inl rfl⟩
  · exact .inr ⟨_, _, _, rfl, Nat.le_refl _, hr, rows.flatten, ep, lo, g1, g2, by simp, by rw [List.drop_zero, List.take_length]⟩
end

end Go.VE
