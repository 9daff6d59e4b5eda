/-
  Words for walks with state: what a run leaves alone, slices that grow at their tip, slices that were made, objects behind pointers.
-/
import Derived.Test.YtiikicpepnaghaaGreatDoorVeReps
set_option linter.unusedSimpArgs false
set_option linter.unusedVariables false
namespace Go.VE

/-- Nothing that was there has changed, but for what lies in S. -/
structure FrS (S : Nat → Prop) (M M' : Mem) : Prop where
  next : M.next ≤ M'.next
  same : ∀ id, id < M.next → ¬ S id → M'.get id = M.get id
/-- v's block. -/
def blk (v : AVal) : Nat → Prop := fun i => ∃ a sz n cap ex, v = .slice a sz n cap ex ∧ a.id = i
/-- v's block, if it has one, does not lie in S. -/
def Off (S : Nat → Prop) (v : AVal) : Prop := ∀ i, blk v i → ¬ S i

section
variable {S : Nat → Prop} {M M1 M2 M' : Mem} {v x : AVal} {sz : Nat} {rows : List (List AVal)}
theorem FrS.refl : FrS S M M := ⟨Nat.le_refl _, fun _ _ _ => rfl⟩
theorem FrS.trans (h : FrS S M M1) (h' : FrS S M1 M2) : FrS S M M2 := ⟨Nat.le_trans h.next h'.next, fun id hi hs => (h'.same id (Nat.lt_of_lt_of_le hi h.next) hs).trans (h.same id hi hs)⟩
theorem FrS.of (h : Gr M M1) : FrS S M M1 := ⟨h.next, fun id hi _ => h.same id hi⟩
theorem FrS.gr (h : FrS S M M1) (hs : ∀ i, i < M.next → ¬ S i) : Gr M M1 := ⟨h.next, fun id hi => h.same id hi (hs id hi)⟩
theorem FrS.set {id : Nat} (h : FrS S M M1) (hs : M.next ≤ id ∨ S id) (b : ABlock) : FrS S M (M1.set id b) :=
  ⟨h.next, fun i hi hn => by
    rw [Mem.get_set]
    split
    · rename_i e
      subst e
      rcases hs with hs | hs
      · omega
      · exact absurd hs hn
    · exact h.same i hi hn⟩
theorem FrS.mono {S' : Nat → Prop} (h : FrS S M M1) (hs : ∀ i, i < M.next → S i → S' i) : FrS S' M M1 := ⟨h.next, fun i hi hn => h.same i hi (fun h' => hn (hs i hi h'))⟩
theorem FrS.get {id : Nat} {b : ABlock} (h : FrS S M M1) (hf : M.Fine) (hg : M.get id = some b) (hs : ¬ S id) : M1.get id = some b := (h.same id (hf id b hg) hs).trans hg
/-- First what grew, then what was written. -/
theorem FrS.cat {T : Nat → Prop} (h : FrS S M M1) (h' : FrS T M1 M2) (hs : ∀ i, i < M.next → T i → S i) : FrS S M M2 :=
  ⟨Nat.le_trans h.next h'.next, fun id hi hn => (h'.same id (Nat.lt_of_lt_of_le hi h.next) (fun ht => hn (hs id hi ht))).trans (h.same id hi hn)⟩

theorem blk_slice {a : AAddr} {n cap : Nat} {ex : Bool} {i : Nat} (h : blk (.slice a sz n cap ex) i) : i = a.id := by obtain ⟨_, _, _, _, _, e, e'⟩ := h; cases e; exact e'.symm
theorem blk_nil {i : Nat} (h : blk .nilSlice i) : False := by obtain ⟨_, _, _, _, _, e, _⟩ := h; cases e
theorem Bk.blk {lo hi i : Nat} (h : Bk lo hi v) (hb : Go.VE.blk v i) : lo ≤ i ∧ i < hi := by obtain ⟨a, _, _, _, _, e, e'⟩ := hb; subst e'; exact h _ _ _ _ _ e
theorem Off.of_bk {lo hi : Nat} (h : Bk lo hi v) (hs : ∀ i, lo ≤ i → i < hi → ¬ S i) : Off S v := fun i hb => hs i (h.blk hb).1 (h.blk hb).2
theorem Sl.blk_lt (h : Sl M v sz rows) (hf : M.Fine) {i : Nat} (hb : blk v i) : i < M.next := by
  rcases h with ⟨_, rfl | rfl⟩ | ⟨a, cap, ex, rfl, _, _, cs, ep, lo, g1, _⟩
  · exact (blk_nil hb).elim
  · obtain ⟨_, _, _, _, _, e, _⟩ := hb; cases e
  · rw [blk_slice hb]; exact hf _ _ g1
theorem Sl.frs (h : Sl M v sz rows) (hf : M.Fine) (hg : FrS S M M1) (ho : Off S v) : Sl M1 v sz rows := by
  rcases h with h | ⟨a, cap, ex, h1, hc, h2, cs, ep, lo, g1, g2, g3, g4⟩
  · exact .inl h
  · exact .inr ⟨a, cap, ex, h1, hc, h2, cs, ep, lo, hg.get hf g1 (ho _ ⟨_, _, _, _, _, h1, rfl⟩), g2, g3, g4⟩
theorem El.frs {p : AAddr} {r : List AVal} (h : El M p r) (hf : M.Fine) (hg : FrS S M M1) (ho : ¬ S p.id) : El M1 p r := by
  obtain ⟨cs, ep, lo, h1, h2, h3, h4⟩ := h
  exact ⟨cs, ep, lo, hg.get hf h1 ho, h2, h3, h4⟩
end

/-- A value that lies in one cell. -/
def Cell1 (v : AVal) : Prop := v.solid = true ∧ v.cells = [v]

/-! A slice of one's own that ends where its block ends -/
def TipX (M : Mem) (v : AVal) (sz n : Nat) (cs : List AVal) : Prop :=
  (v = .nilSlice ∧ n = 0 ∧ cs = []) ∨ ∃ id ep lo, v = .slice ⟨id, 0, ep, cs.length⟩ sz n n false ∧ M.get id = some (.cells cs ep lo) ∧ lo ≤ ep ∧ cs.length = n * sz

section
variable {P : Program} {M M1 : Mem} {v r z x : AVal} {S : Nat → Prop}
theorem TipX.nil {sz : Nat} : TipX M .nilSlice sz 0 [] := .inl ⟨rfl, rfl, rfl⟩
theorem TipX.plain {sz n : Nat} {cs : List AVal} (h : TipX M v sz n cs) : Cell1 v := by
  rcases h with ⟨rfl, _⟩ | ⟨id, ep, lo, rfl, _⟩ <;> exact ⟨rfl, rfl⟩
theorem TipX.blk_lt {sz n : Nat} {cs : List AVal} (h : TipX M v sz n cs) (hf : M.Fine) {i : Nat} (hb : blk v i) : i < M.next := by
  rcases h with ⟨rfl, _⟩ | ⟨id, ep, lo, rfl, g1, _⟩
  · exact (blk_nil hb).elim
  · rw [blk_slice hb]; exact hf _ _ g1
theorem TipX.frs {sz n : Nat} {cs : List AVal} (h : TipX M v sz n cs) (hf : M.Fine) (hg : FrS S M M1) (ho : Off S v) : TipX M1 v sz n cs := by
  rcases h with h | ⟨id, ep, lo, rfl, g1, g2, g3⟩
  · exact .inl h
  · exact .inr ⟨id, ep, lo, rfl, hg.get hf g1 (ho _ ⟨_, _, _, _, _, rfl, rfl⟩), g2, g3⟩
theorem TipX.ext {sz n : Nat} {cs : List AVal} (h : TipX M v sz n cs) (hf : M.Fine) (hg : Gr M M1) : TipX M1 v sz n cs :=
  h.frs (S := fun _ => False) hf (FrS.of hg) (fun _ _ h => h)
theorem TipX.sl {sz : Nat} {rows : List (List AVal)} (h : TipX M v sz rows.length rows.flatten) (hr : ∀ r ∈ rows, r.length = sz) : Sl M v sz rows := by
  rcases h with ⟨rfl, h, _⟩ | ⟨id, ep, lo, rfl, g1, g2, g3⟩
  · exact .inl ⟨List.length_eq_zero_iff.mp h, .inl rfl⟩
  · exact .inr ⟨_, _, _, rfl, Nat.le_refl _, hr, rows.flatten, ep, lo, g1, g2, by simp, by rw [List.drop_zero, List.take_length]⟩
/-- Elements are appended. -/
theorem TipX.push {t e : TypeId} {sz n m : Nat} {zs cs news : List AVal} (h : TipX M v sz n cs) (hf : M.Fine) (ht : P.underlying t = some (.slice e)) (hz : zeroCells P e = some (sz, zs)) (h0 : 0 < sz) (hm : 0 < m) (hr : newsOf M sz r = some news) (hn : news.length = m * sz) (hfit : fits P e (n + m) = true) (hfit1 : fits P e m = true) {t1 : TypeId} {e1 : TypeDesc} (ht1 : P.underlying t1 = some e1) (hi : ∀ k, e1 ≠ .int k) :
    ∃ v' M', Go.VE.builtin P M .append #[t, t1] [v, r] = .val v' M' ∧ TipX M' v' sz (n + m) (cs ++ news) ∧ FrS (blk v) M M' ∧ M'.Fine ∧ (∀ i, blk v' i → blk v i ∨ M.next ≤ i) := by
  have e1' : elemOf P t = some e := by unfold elemOf; rw [ht]
  have d1 : news.length / sz = m := by rw [hn]; exact Nat.mul_div_cancel _ h0
  have d2 : Nat.beq (news.length % sz) 0 = true := by rw [hn, Nat.mul_mod_left]; rfl
  have eb : Go.VE.builtin P M .append #[t, t1] [v, r] = appendTo P M e sz v m news := by
    have t0 : (#[t, t1][0]?).bind (elemOf P) = some e := e1'
    have t1' : (#[t, t1][1]?).bind P.underlying = some e1 := ht1
    unfold Go.VE.builtin
    simp only [t0, t1']
    cases e1 <;> first | exact absurd rfl (hi _) | (simp only [append, hz, hr, appendAll, d2, d1])
  rw [eb]
  rcases h with ⟨rfl, rfl, rfl⟩ | ⟨id, ep, lo, rfl, g1, g2, g3⟩
  · refine ⟨.slice ⟨M.next, 0, 0, news.length⟩ sz m m false, M.alloc (.cells news 0 0), ?_, .inr ⟨M.next, 0, 0, by rw [List.nil_append, Nat.zero_add], by rw [Mem.get_alloc, if_pos rfl]; rfl, Nat.le_refl _, by rw [List.nil_append, hn, Nat.zero_add]⟩, FrS.of (Gr.alloc _ _), hf.alloc _, fun i hb => .inr (by rw [blk_slice hb]; exact Nat.le_refl _)⟩
    unfold appendTo
    cases news with
    | nil => simp only [List.length_nil] at hn; rcases Nat.mul_eq_zero.mp hn.symm with h | h <;> omega
    | cons a b =>
      simp only [hfit1]
      rfl
  · have hid := hf id _ g1
    refine ⟨.slice ⟨id, 0, ep + 1, cs.length + news.length⟩ sz (n + m) (n + m) false, M.set id (.cells (cs ++ news) (ep + 1) lo), ?_, .inr ⟨id, ep + 1, lo, by rw [List.length_append], by rw [Mem.get_set, if_pos rfl], by omega, by rw [List.length_append, g3, hn, Nat.add_mul]⟩, FrS.refl.set (.inr ⟨_, _, _, _, _, rfl, rfl⟩) _, hf.set hid _, fun i hb => .inl ⟨_, _, _, _, _, rfl, (blk_slice hb).symm⟩⟩
    unfold appendTo
    have c1 : (fits P e (n + m) && Nat.beq sz sz) = true := by rw [hfit, Nat.beq_refl]; rfl
    have c2 : Nat.ble (n + m) n = false := by
      cases hh : Nat.ble (n + m) n with
      | false => rfl
      | true => have := Nat.le_of_ble_eq_true hh; omega
    simp only [c1, c2]
    unfold appendTip
    have c3 : Nat.beq (n * sz) cs.length = true := by rw [g3]; exact Nat.beq_refl _
    simp only [g1, Nat.beq_refl, c3, appL_eq, lenL_eq]

/-! A slice of one-cell elements that was made, in a block of its own -/
def OwnC (M : Mem) (v : AVal) (id : Nat) (cs : List AVal) : Prop :=
  v = .slice ⟨id, 0, 0, cs.length⟩ 1 cs.length cs.length true ∧ M.get id = some (.cells cs 0 0)
variable {M' : Mem} {id : Nat} {cs : List AVal} {t e : TypeId}
theorem OwnC.ext (h : OwnC M v id cs) (hf : M.Fine) (hg : Gr M M') : OwnC M' v id cs := ⟨h.1, hg.get hf h.2⟩
theorem OwnC.frs (h : OwnC M v id cs) (hf : M.Fine) (hg : FrS S M M') (ho : ¬ S id) : OwnC M' v id cs := ⟨h.1, hg.get hf h.2 ho⟩
theorem OwnC.plain (h : OwnC M v id cs) : Cell1 v := by obtain ⟨rfl, _⟩ := h; exact ⟨rfl, rfl⟩
theorem OwnC.len (h : OwnC M v id cs) (ht : P.underlying t = some (.slice e)) (M' : Mem) : Go.VE.builtin P M' .len #[t] [v] = .val (.int .i64 (cs.length : Int)) M' := by
  obtain ⟨rfl, _⟩ := h; simp [Go.VE.builtin, lenV, ht, OpR.ofOpt]
theorem OwnC.idx (h : OwnC M v id cs) (ht : P.underlying t = some (.slice e)) (hs : size? P e = some 1) {i : Nat} (hi : i < cs.length) (M' : Mem) : evIndexAddr P M' t v (.int .i64 (i : Int)) = .val (.ptr ⟨id, i, 0, cs.length⟩) M' := by
  obtain ⟨rfl, _⟩ := h
  have e1 : (Go.VE.elemOf P t).bind (size? P) = some 1 := by unfold Go.VE.elemOf; simp only [ht, Option.bind_some]; exact hs
  have e3 : Nat.blt i cs.length = true := by unfold Nat.blt; exact Nat.ble_eq_true_of_le hi
  unfold evIndexAddr
  simp only [e1, Nat.beq_refl, natIn_nat (q := .i64) (Nat.le_of_lt hi), e3, Nat.zero_add, Nat.mul_one]
theorem OwnC.load (h : OwnC M v id cs) (ht : agg? P e = some false) {i : Nat} {x : AVal} (hi : cs[i]? = some x) : evLoad P M e (.ptr ⟨id, i, 0, cs.length⟩) = .val x M := by
  have hlt : i < cs.length := (List.getElem?_eq_some_iff.mp hi).1
  exact load_one (a := ⟨id, i, 0, cs.length⟩) ht h.2 (Nat.le_refl _) (by show i + 1 ≤ cs.length; omega) hi
theorem OwnC.store (h : OwnC M v id cs) (hs : size? P e = some 1) {i : Nat} (hi : i < cs.length) {x : AVal} (hx : x.solid = true) (hx1 : x.cells = [x]) :
    ∃ M', evStore P M e (.ptr ⟨id, i, 0, cs.length⟩) x = .val (.tuple []) M' ∧ OwnC M' v id (cs.set i x) ∧ M' = M.set id (.cells (cs.set i x) 0 0) := by
  have st := store_one (P := P) (M := M) (t := e) hs (a := ⟨id, i, 0, cs.length⟩) h.2 rfl (by show i + 1 ≤ cs.length; omega) (v := x) hx hx1 (by show i < cs.length; omega)
  exact ⟨_, st, ⟨by rw [List.length_set]; exact h.1, by rw [Mem.get_set, if_pos rfl]⟩, rfl⟩
theorem rep_one : ∀ n : Nat, repeatCells [z] n = List.replicate n z := by
  intro n
  induction n with
  | zero => rfl
  | succ n ih => unfold repeatCells; rw [ih, List.replicate_succ]; rfl
theorem OwnC.make (hf : M.Fine) (ht : P.underlying t = some (.slice e)) (hz : zeroCells P e = some (1, [z])) (hb : Go.VE.bytes P e ≤ 8) {n : Nat} (hn : n ≤ 100000) :
    ∃ v M', evMakeSlice P M t (.int .i64 (n : Int)) (.int .i64 (n : Int)) = .val v M' ∧ OwnC M' v M.next (List.replicate n z) ∧ Gr M M' ∧ M'.Fine ∧ M'.next = M.next + 1 := by
  have e1 : Go.VE.elemOf P t = some e := by unfold Go.VE.elemOf; simp only [ht]
  have h8 : n * Go.VE.bytes P e ≤ n * 8 := Nat.mul_le_mul_left _ hb
  have e3 : (Nat.ble n n && Nat.ble n (2 ^ 40) && Nat.ble (n * Go.VE.bytes P e) (2 ^ 40) && Nat.ble (n * 1) (2 ^ 20)) = true := by
    rw [Nat.ble_eq_true_of_le (Nat.le_refl n), Nat.ble_eq_true_of_le (show n ≤ 2 ^ 40 by omega), Nat.ble_eq_true_of_le (show n * Go.VE.bytes P e ≤ 2 ^ 40 by omega), Nat.ble_eq_true_of_le (show n * 1 ≤ 2 ^ 20 by omega)]; rfl
  refine ⟨.slice ⟨M.next, 0, 0, n * 1⟩ 1 n n true, M.alloc (.cells (repeatCells [z] n) 0 0), ?_, ⟨by rw [List.length_replicate, Nat.mul_one], by rw [Mem.get_alloc, if_pos rfl, rep_one]⟩, Gr.alloc M _, hf.alloc _, rfl⟩
  show evMakeSlice P M t (.int .i64 (.ofNat n)) (.int .i64 (.ofNat n)) = _
  unfold evMakeSlice
  simp only [e1, hz, e3]
theorem OwnC.sl (h : OwnC M v id cs) : Sl M v 1 (cs.map fun c => [c]) := by
  obtain ⟨rfl, h⟩ := h
  refine .inr ⟨⟨id, 0, 0, cs.length⟩, cs.length, true, by rw [List.length_map], by rw [List.length_map]; exact Nat.le_refl _, fun r hr => ?_, cs, 0, 0, h, Nat.le_refl _, ?_, ?_⟩
  · obtain ⟨c, _, rfl⟩ := List.mem_map.mp hr; rfl
  · have : (cs.map fun c => [c]).flatten = cs := by clear h; induction cs with
      | nil => rfl
      | cons a b ih => simp [ih]
    rw [this]; simp
  · have : (cs.map fun c => [c]).flatten = cs := by clear h; induction cs with
      | nil => rfl
      | cons a b ih => simp [ih]
    rw [this]; simp

/-! A whole block, behind a pointer -/
theorem ob_el {o n : Nat} (h : M.get o = some (.cells cs 0 0)) (hn : cs.length = n) : El M ⟨o, 0, 0, n⟩ cs := by
  subst hn
  exact ⟨cs, 0, 0, h, Nat.le_refl _, by simp, by simp⟩
theorem ob_store {o n i : Nat} (h : M.get o = some (.cells cs 0 0)) (hn : cs.length = n) (hs : size? P t = some 1) (hi : i < n) (hx : x.solid = true) (hx1 : x.cells = [x]) :
    evStore P M t (.ptr ⟨o, 0 + i, 0, n⟩) x = .val (.tuple []) (M.set o (.cells (cs.set i x) 0 0)) := by
  subst hn
  have st := store_one (P := P) (M := M) (t := t) hs (a := ⟨o, 0 + i, 0, cs.length⟩) h rfl (by show 0 + i + 1 ≤ cs.length; omega) (v := x) hx hx1 (by show 0 + i < cs.length; omega)
  simpa using st
/-- A struct's value is boxed, and where. -/
theorem new_ob {vs : List AVal} (hf : M.Fine) : ∃ M1, evNew M (.agg vs) = .val (.ptr ⟨M.next, 0, 0, vs.length⟩) M1 ∧ Gr M M1 ∧ M1.Fine ∧ M1.get M.next = some (.cells vs 0 0) ∧ M1.next = M.next + 1 :=
  ⟨M.alloc (.cells vs 0 0), evNew_one rfl, Gr.alloc M _, hf.alloc _, by rw [Mem.get_alloc, if_pos rfl], rfl⟩
end
end Go.VE
