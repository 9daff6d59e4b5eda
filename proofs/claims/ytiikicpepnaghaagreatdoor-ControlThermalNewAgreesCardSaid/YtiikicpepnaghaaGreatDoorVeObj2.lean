/-
  Words for walks with state: structs laid into blocks, slices of structs that were made, slices that are full.
-/
import Derived.Test.YtiikicpepnaghaaGreatDoorVeObj
set_option linter.unusedSimpArgs false
set_option linter.unusedVariables false
namespace Go.VE

theorem overL_take : ∀ (off : Nat) (cs vs : List AVal), off + vs.length ≤ cs.length → overL off cs vs = cs.take off ++ vs ++ cs.drop (off + vs.length) := by
  intro off
  induction off with
  | zero =>
    intro cs vs h
    show appL vs (dropL (lenL vs) cs) = _
    rw [appL_eq, dropL_eq, lenL_eq, List.take_zero, List.nil_append, Nat.zero_add]
  | succ off ih =>
    intro cs vs h
    cases cs with
    | nil => simp only [List.length_nil] at h; omega
    | cons c t =>
      show c :: overL off t vs = _
      rw [ih t vs (by simp only [List.length_cons] at h; omega), List.take_succ_cons, show off + 1 + vs.length = (off + vs.length) + 1 by omega, List.drop_succ_cons]
      rfl

section
variable {P : Program} {M M1 M' : Mem} {v r z x : AVal} {S : Nat → Prop} {t e : TypeId}

/-- A struct's value is stored. -/
theorem st_agg {id off lim ep lo : Nat} {cs vs : List AVal} (h : M.get id = some (.cells cs ep lo)) (hs : size? P t = some vs.length) (hb : off + vs.length ≤ lim) (hl : off + vs.length ≤ cs.length) :
    evStore P M t (.ptr ⟨id, off, ep, lim⟩) (.agg vs) = .val (.tuple []) (M.set id (.cells (cs.take off ++ vs ++ cs.drop (off + vs.length)) ep ep)) := by
  unfold evStore storeVar
  have e0 : Nat.beq (AVal.agg vs).cells.length vs.length = true := Nat.beq_refl _
  simp only [AVal.solid, hs, e0]
  unfold storeCells
  simp only [h, Nat.beq_refl]
  have e2 : Nat.ble (off + (AVal.agg vs).cells.length) lim = true := Nat.ble_eq_true_of_le (by show off + vs.length ≤ lim; omega)
  simp only [e2]
  rw [show (AVal.agg vs).cells = vs from rfl, overL_take off cs vs hl]
  rfl

theorem flat_set {α} {sz : Nat} : ∀ {rows : List (List α)} {i : Nat} (r : List α), (∀ r ∈ rows, r.length = sz) → i < rows.length → r.length = sz → rows.flatten.take (i * sz) ++ r ++ rows.flatten.drop (i * sz + r.length) = (rows.set i r).flatten := by
  intro rows
  induction rows with
  | nil => intro i r _ h; simp only [List.length_nil] at h; omega
  | cons a t ih =>
    intro i r hr hi hl
    have ha : a.length = sz := hr a (List.mem_cons_self ..)
    cases i with
    | zero =>
      rw [Nat.zero_mul, List.take_zero, List.nil_append, Nat.zero_add, List.set_cons_zero, List.flatten_cons, List.flatten_cons, hl, ← ha, List.drop_left]
    | succ i =>
      rw [List.set_cons_succ, List.flatten_cons, List.flatten_cons, ← ih r (fun q hq => hr q (List.mem_cons_of_mem _ hq)) (by simp only [List.length_cons] at hi; omega) hl, Nat.add_mul, Nat.one_mul, Nat.add_comm (i * sz) sz, ← ha, List.take_length_add_append, Nat.add_assoc, ← List.drop_drop, List.drop_left]
      simp
theorem flat_set1 {α} {sz j : Nat} {rows : List (List α)} {i : Nat} {r : List α} (y : α) (h : ∀ r ∈ rows, r.length = sz) (hr : rows[i]? = some r) (hj : j < sz) : rows.flatten.set (i * sz + j) y = (rows.set i (r.set j y)).flatten := by
  obtain ⟨hi, rfl⟩ := List.getElem?_eq_some_iff.mp hr
  have hl : rows[i].length = sz := h _ (List.getElem_mem hi)
  rw [← flat_set (rows[i].set j y) h hi (by rw [List.length_set]; exact hl)]
  have e1 : rows.flatten = rows.flatten.take (i * sz) ++ (rows[i] ++ rows.flatten.drop (i * sz + sz)) := by
    have := flat_set rows[i] h hi hl
    rw [List.set_getElem_self] at this
    rw [hl] at this
    rw [← List.append_assoc]; exact this.symm
  have hlen := flat_len h
  have hle : i * sz + sz ≤ rows.length * sz := by rw [← Nat.succ_mul]; exact Nat.mul_le_mul_right _ hi
  have htk : (rows.flatten.take (i * sz)).length = i * sz := by rw [List.length_take]; omega
  conv => lhs; rw [e1]
  rw [List.set_append_right _ _ (by omega), htk, show i * sz + j - i * sz = j by omega, List.set_append_left _ _ (by omega)]
  rw [List.length_set, hl, List.append_assoc]

/-! A slice of structs that was made, in a block of its own -/
def OwnR (M : Mem) (v : AVal) (id sz : Nat) (rows : List (List AVal)) : Prop :=
  v = .slice ⟨id, 0, 0, rows.length * sz⟩ sz rows.length rows.length true ∧ M.get id = some (.cells rows.flatten 0 0) ∧ ∀ r ∈ rows, r.length = sz
variable {id sz : Nat} {rows : List (List AVal)}
theorem OwnR.ext (h : OwnR M v id sz rows) (hf : M.Fine) (hg : Gr M M') : OwnR M' v id sz rows := ⟨h.1, hg.get hf h.2.1, h.2.2⟩
theorem OwnR.frs (h : OwnR M v id sz rows) (hf : M.Fine) (hg : FrS S M M') (ho : ¬ S id) : OwnR M' v id sz rows := ⟨h.1, hg.get hf h.2.1 ho, h.2.2⟩
theorem OwnR.plain (h : OwnR M v id sz rows) : Cell1 v := by obtain ⟨rfl, _⟩ := h; exact ⟨rfl, rfl⟩
theorem OwnR.len (h : OwnR M v id sz rows) (ht : P.underlying t = some (.slice e)) (M' : Mem) : Go.VE.builtin P M' .len #[t] [v] = .val (.int .i64 (rows.length : Int)) M' := by
  obtain ⟨rfl, _⟩ := h; simp [Go.VE.builtin, lenV, ht, OpR.ofOpt]
theorem OwnR.idx (h : OwnR M v id sz rows) (ht : P.underlying t = some (.slice e)) (hs : size? P e = some sz) {i : Nat} (hi : i < rows.length) (M' : Mem) : evIndexAddr P M' t v (.int .i64 (i : Int)) = .val (.ptr ⟨id, i * sz, 0, rows.length * sz⟩) M' := by
  obtain ⟨rfl, _⟩ := h
  have e1 : (Go.VE.elemOf P t).bind (size? P) = some sz := by unfold Go.VE.elemOf; simp only [ht, Option.bind_some]; exact hs
  have e3 : Nat.blt i rows.length = true := by unfold Nat.blt; exact Nat.ble_eq_true_of_le hi
  unfold evIndexAddr
  simp only [e1, Nat.beq_refl, natIn_nat (q := .i64) (Nat.le_of_lt hi), e3, Nat.zero_add]
theorem OwnR.el (h : OwnR M v id sz rows) {i : Nat} {r : List AVal} (hr : rows[i]? = some r) : El M ⟨id, i * sz, 0, rows.length * sz⟩ r := by
  obtain ⟨hi, hr'⟩ := List.getElem?_eq_some_iff.mp hr
  have hl : r.length = sz := h.2.2 r (List.mem_of_getElem? hr)
  refine ⟨rows.flatten, 0, 0, h.2.1, Nat.le_refl _, ?_, ?_⟩
  · show i * sz + r.length ≤ rows.length * sz
    rw [hl, ← Nat.succ_mul]; exact Nat.mul_le_mul_right _ hi
  · show (rows.flatten.drop (i * sz)).take r.length = r
    rw [hl]; exact flat_row h.2.2 hr
theorem OwnR.storeR (h : OwnR M v id sz rows) (hs : size? P e = some sz) {i : Nat} (hi : i < rows.length) {r : List AVal} (hl : r.length = sz) :
    ∃ M', evStore P M e (.ptr ⟨id, i * sz, 0, rows.length * sz⟩) (.agg r) = .val (.tuple []) M' ∧ OwnR M' v id sz (rows.set i r) ∧ M' = M.set id (.cells (rows.set i r).flatten 0 0) := by
  have hle : i * sz + r.length ≤ rows.length * sz := by rw [hl, ← Nat.succ_mul]; exact Nat.mul_le_mul_right _ hi
  have st := st_agg (P := P) (t := e) (off := i * sz) (lim := rows.length * sz) (vs := r) h.2.1 (by rw [hl]; exact hs) hle (by rw [flat_len h.2.2]; exact hle)
  rw [flat_set r h.2.2 hi hl] at st
  refine ⟨_, st, ⟨by rw [List.length_set]; exact h.1, by rw [Mem.get_set, if_pos rfl], fun q hq => ?_⟩, rfl⟩
  rcases List.mem_or_eq_of_mem_set hq with h' | h'
  · exact h.2.2 q h'
  · rw [h']; exact hl
theorem OwnR.storeF (h : OwnR M v id sz rows) {t : TypeId} (hs : size? P t = some 1) {i j : Nat} {r : List AVal} (hr : rows[i]? = some r) (hj : j < sz) {x : AVal} (hx : x.solid = true) (hx1 : x.cells = [x]) :
    ∃ M', evStore P M t (.ptr ⟨id, i * sz + j, 0, rows.length * sz⟩) x = .val (.tuple []) M' ∧ OwnR M' v id sz (rows.set i (r.set j x)) ∧ M' = M.set id (.cells (rows.set i (r.set j x)).flatten 0 0) := by
  obtain ⟨hi, hr'⟩ := List.getElem?_eq_some_iff.mp hr
  have hl : r.length = sz := h.2.2 r (List.mem_of_getElem? hr)
  have hle : i * sz + sz ≤ rows.length * sz := by rw [← Nat.succ_mul]; exact Nat.mul_le_mul_right _ hi
  have st := store_one (P := P) (M := M) (t := t) hs (a := ⟨id, i * sz + j, 0, rows.length * sz⟩) h.2.1 rfl (by show i * sz + j + 1 ≤ rows.length * sz; omega) (v := x) hx hx1 (by show i * sz + j < rows.flatten.length; rw [flat_len h.2.2]; omega)
  simp only at st
  rw [flat_set1 x h.2.2 hr hj] at st
  refine ⟨_, st, ⟨by rw [List.length_set]; exact h.1, by rw [Mem.get_set, if_pos rfl], fun q hq => ?_⟩, rfl⟩
  rcases List.mem_or_eq_of_mem_set hq with h' | h'
  · exact h.2.2 q h'
  · rw [h', List.length_set]; exact hl
theorem rep_rows {zs : List AVal} : ∀ n : Nat, repeatCells zs n = (List.replicate n zs).flatten := by
  intro n
  induction n with
  | zero => rfl
  | succ n ih => unfold repeatCells; rw [ih, List.replicate_succ, List.flatten_cons]
theorem OwnR.make (hf : M.Fine) (ht : P.underlying t = some (.slice e)) {zs : List AVal} (hz : zeroCells P e = some (sz, zs)) (hzl : zs.length = sz) {b : Nat} (hb : Go.VE.bytes P e = b) {n : Nat} (hn1 : n ≤ 100000) (hn2 : n * b ≤ 2 ^ 40) (hn3 : n * sz ≤ 2 ^ 20) :
    ∃ v M', evMakeSlice P M t (.int .i64 (n : Int)) (.int .i64 (n : Int)) = .val v M' ∧ OwnR M' v M.next sz (List.replicate n zs) ∧ Gr M M' ∧ M'.Fine ∧ M'.next = M.next + 1 := by
  have e1 : Go.VE.elemOf P t = some e := by unfold Go.VE.elemOf; simp only [ht]
  have e3 : (Nat.ble n n && Nat.ble n (2 ^ 40) && Nat.ble (n * Go.VE.bytes P e) (2 ^ 40) && Nat.ble (n * sz) (2 ^ 20)) = true := by
    rw [hb, Nat.ble_eq_true_of_le (Nat.le_refl n), Nat.ble_eq_true_of_le (show n ≤ 2 ^ 40 by omega), Nat.ble_eq_true_of_le hn2, Nat.ble_eq_true_of_le hn3]; rfl
  refine ⟨.slice ⟨M.next, 0, 0, n * sz⟩ sz n n true, M.alloc (.cells (repeatCells zs n) 0 0), ?_, ⟨by rw [List.length_replicate], by rw [Mem.get_alloc, if_pos rfl, rep_rows], fun r hr => by rw [(List.mem_replicate.mp hr).2]; exact hzl⟩, Gr.alloc M _, hf.alloc _, rfl⟩
  show evMakeSlice P M t (.int .i64 (.ofNat n)) (.int .i64 (.ofNat n)) = _
  unfold evMakeSlice
  simp only [e1, hz, e3]
theorem OwnR.sl (h : OwnR M v id sz rows) : Sl M v sz rows := by
  obtain ⟨rfl, h1, h2⟩ := h
  exact .inr ⟨⟨id, 0, 0, rows.length * sz⟩, rows.length, true, rfl, Nat.le_refl _, h2, rows.flatten, 0, 0, h1, Nat.le_refl _, by show 0 + rows.flatten.length ≤ rows.length * sz; rw [flat_len h2]; omega, by rw [List.drop_zero, List.take_length]⟩

/-- A row of one element, as a slice of one's own. -/
theorem row1R {zs : List AVal} (ht : P.underlying t = some (.slice e)) (hz : zeroCells P e = some (sz, zs)) (hs : x.solid = true) (hx : x.cells.length = sz) (hb : sz ≤ 1000000) (hf : M.Fine) :
    ∃ v M', evBuildSliceR P M t 1 [(0, x)] = .val v M' ∧ OwnR M' v M.next sz [x.cells] ∧ Gr M M' ∧ M'.Fine ∧ M'.next = M.next + 1 :=
  ⟨_, _, row1 ht hz hs hx hb, ⟨by show AVal.slice _ _ _ _ _ = _; rw [hx]; simp, by rw [Mem.get_alloc, if_pos rfl]; simp, fun r hr => by rw [List.mem_singleton.mp hr]; exact hx⟩, Gr.alloc _ _, hf.alloc _, rfl⟩

/-- To a full slice elements are appended: it moves. -/
theorem OwnR.push {zs news : List AVal} {m : Nat} (h : OwnR M v id sz rows) (hf : M.Fine) (ht : P.underlying t = some (.slice e)) (hz : zeroCells P e = some (sz, zs)) (h0 : 0 < sz) (hm : 0 < m) (hr : newsOf M sz r = some news) (hn : news.length = m * sz) (hfit : fits P e (rows.length + m) = true) {t1 : TypeId} {e1 : TypeDesc} (ht1 : P.underlying t1 = some e1) (hi : ∀ k, e1 ≠ .int k) :
    ∃ v' M', Go.VE.builtin P M .append #[t, t1] [v, r] = .val v' M' ∧ TipX M' v' sz (rows.length + m) (rows.flatten ++ news) ∧ Gr M M' ∧ M'.Fine ∧ (∀ i, blk v' i → M.next ≤ i) := by
  have e1' : elemOf P t = some e := by unfold elemOf; rw [ht]
  have d1 : news.length / sz = m := by rw [hn]; exact Nat.mul_div_cancel _ h0
  have d2 : Nat.beq (news.length % sz) 0 = true := by rw [hn, Nat.mul_mod_left]; rfl
  have eb : Go.VE.builtin P M .append #[t, t1] [v, r] = appendTo P M e sz v m news := by
    have t0 : (#[t, t1][0]?).bind (elemOf P) = some e := e1'
    have t1' : (#[t, t1][1]?).bind P.underlying = some e1 := ht1
    unfold Go.VE.builtin
    simp only [t0, t1']
    cases e1 <;> first | exact absurd rfl (hi _) | (simp only [append, hz, hr, appendAll, d2, d1])
  rw [eb]
  obtain ⟨rfl, g1, g2⟩ := h
  have hfl := flat_len g2
  refine ⟨.slice ⟨M.next, 0, 0, (rows.flatten ++ news).length⟩ sz (rows.length + m) (rows.length + m) false, M.alloc (.cells (rows.flatten ++ news) 0 0), ?_, .inr ⟨M.next, 0, 0, rfl, by rw [Mem.get_alloc, if_pos rfl], Nat.le_refl _, by rw [List.length_append, hfl, hn, Nat.add_mul]⟩, Gr.alloc _ _, hf.alloc _, fun i hb => by rw [blk_slice hb]; exact Nat.le_refl _⟩
  unfold appendTo
  have c1 : (fits P e (rows.length + m) && Nat.beq sz sz) = true := by rw [hfit, Nat.beq_refl]; rfl
  have c2 : Nat.ble (rows.length + m) rows.length = false := by
    cases hh : Nat.ble (rows.length + m) rows.length with
    | false => rfl
    | true => have := Nat.le_of_ble_eq_true hh; omega
  have c3 : loadCells M ⟨id, 0, 0, rows.length * sz⟩ (rows.length * sz) = some rows.flatten := by
    rw [loadCells_of (cs := rows.flatten) (ep := 0) (lo := 0) g1 (Nat.le_refl _) (by simp), List.drop_zero, ← hfl, List.take_length]
  simp only [c1, c2, c3]
  unfold appendOld appendNew
  rfl

theorem idx_mem {i u : AVal} (h : evIndexAddr P M t x i = .val u M) (N : Mem) : evIndexAddr P N t x i = .val u N := by
  unfold evIndexAddr at h ⊢
  repeat' split at h
  all_goals first | (cases h; done) | (cases h; rfl) | (simp_all; done) | (cases h; simp_all)
/-- An element's place, whatever the memory. -/
theorem Sl.idxA (h : Sl M v sz rows) (ht : P.underlying t = some (.slice e)) (hs : size? P e = some sz) {i : Nat} {r : List AVal} (hr : rows[i]? = some r) :
    ∃ p, (∀ N, evIndexAddr P N t v (.int .i64 (i : Int)) = .val (.ptr p) N) ∧ El M p r ∧ blk v p.id := by
  obtain ⟨p, h1, h2⟩ := h.idx ht hs hr M
  refine ⟨p, fun N => idx_mem h1 N, h2, ?_⟩
  rcases h with ⟨rfl, _⟩ | ⟨a, cap, ex, rfl, _⟩
  · cases hr
  · refine ⟨a, _, _, _, _, rfl, ?_⟩
    unfold evIndexAddr at h1
    repeat' split at h1
    all_goals first | cases h1 | skip
    all_goals simp_all
    all_goals first | rfl | (obtain ⟨rfl⟩ := h1; rfl) | (rw [← h1])

/-- A result that lies in a cell. -/
theorem ret_cell {a : Tmp} {t : TypeId} {E : FEnv} {p : AAddr} (ha : E a = .ptr p) (hl : evLoad P M t (.ptr p) = .val v M) : retK P #[.cell a t] E M = some (v, M) := by
  have : loadVar P M t p = some v := by
    unfold evLoad at hl
    simp only at hl
    cases h : loadVar P M t p with
    | none => rw [h] at hl; cases hl
    | some u => rw [h] at hl; simp only [OpR.ofOpt, OpR.val.injEq, and_true] at hl; rw [hl]
  unfold retK
  simp only [resultsF, resultF, ha, this]
  rfl
end
end Go.VE
