/-
  The abstract evaluator: memory, allocation, loads and stores against the model's.
-/
import Derived.Test.YtiikicpepnaghaaGreatDoorVeRel
import Derived.Laws.IdiomCopy
namespace Go.VE

/-! What a relation tells of a value -/

section
variable {m : Plc} {c : Value}
theorem ValRel.bool_inv {b : Bool} (h : ValRel m (.bool b) c) : c = .bool b := by cases h; rfl
theorem ValRel.int_inv {k : IntKind} {n : Int} (h : ValRel m (.int k n) c) : c = .int k n := by cases h; rfl
theorem ValRel.str_inv {s : List UInt8} (h : ValRel m (.str s) c) : c = .string ⟨s.toArray⟩ := by cases h; rfl
theorem ValRel.nilPtr_inv (h : ValRel m .nilPtr c) : c = .pointer none := by cases h; rfl
theorem ValRel.nilSlice_inv (h : ValRel m .nilSlice c) : c = .slice none 0 0 := by cases h; rfl
theorem ValRel.emptySl_inv (h : ValRel m .emptySl c) : ∃ a n, c = .slice (some a) 0 n := by cases h; exact ⟨_, _, rfl⟩
theorem ValRel.nilMap_inv (h : ValRel m .nilMap c) : c = .map none := by cases h; rfl
theorem ValRel.nilFunc_inv (h : ValRel m .nilFunc c) : c = .nilFunc := by cases h; rfl
theorem ValRel.nilIface_inv (h : ValRel m .nilIface c) : c = .nilIface := by cases h; rfl
theorem ValRel.ptr_inv {a : AAddr} (h : ValRel m (.ptr a) c) : ∃ pl, m a.id a.ep = some pl ∧ (a.lim ≤ pl.ext ∧ pl.frm ≤ a.off) ∧ c = .pointer (some ⟨pl.blk, a.off, none⟩) := by
  cases h with | ptr _ pl h1 h2 => exact ⟨pl, h1, h2, rfl⟩
theorem ValRel.slice_inv {a : AAddr} {sz len cap : Nat} {ex : Bool} (h : ValRel m (.slice a sz len cap ex) c) :
    ∃ pl ccap, m a.id a.ep = some pl ∧ (a.lim ≤ pl.ext ∧ pl.frm ≤ a.off) ∧ len ≤ cap ∧ cap ≤ ccap ∧ (ex = true → ccap = cap) ∧ a.off + cap * sz ≤ a.lim ∧ a.off + ccap * sz ≤ pl.tot ∧ ccap ≤ maxLen ∧
      c = .slice (some ⟨pl.blk, a.off, none⟩) len ccap := by
  cases h with | slice _ _ _ _ _ pl ccap h1 h2 h3 h4 h5 h6 h7 h8 => exact ⟨pl, ccap, h1, h2, h3, h4, h5, h6, h7, h8, rfl⟩
theorem ValRel.map_inv {id : Nat} (h : ValRel m (.map id) c) : ∃ pl, m id 0 = some pl ∧ c = .map (some pl.blk) := by
  cases h with | map _ pl h1 => exact ⟨pl, h1, rfl⟩
theorem ValRel.agg_inv {vs : List AVal} (h : ValRel m (.agg vs) c) : ∃ cs, c = .agg cs ∧ vs.length = cs.size ∧ (∀ (i : Nat) (v : AVal) (c : Value), vs[i]? = some v → cs[i]? = some c → ValRel m v c) ∧ ∀ (i : Nat) (c : Value), cs[i]? = some c → c.oneCell' = true := by
  cases h with | agg _ cs h1 h2 h3 => exact ⟨cs, rfl, h1, h2, h3⟩
theorem ValRel.tuple_inv {vs : List AVal} (h : ValRel m (.tuple vs) c) : ∃ cs, c = .tuple cs ∧ vs.length = cs.size ∧ ∀ (i : Nat) (v : AVal) (c : Value), vs[i]? = some v → cs[i]? = some c → ValRel m v c := by
  cases h with | tuple _ cs h1 h2 => exact ⟨cs, rfl, h1, h2⟩
theorem ValRel.func_inv {f : FuncId} {vs : List AVal} (h : ValRel m (.func f vs) c) : ∃ cs, c = .func (.func f) #[] cs ∧ vs.length = cs.size ∧ ∀ (i : Nat) (v : AVal) (c : Value), vs[i]? = some v → cs[i]? = some c → ValRel m v c := by
  cases h with | func _ _ cs h1 h2 => exact ⟨cs, rfl, h1, h2⟩
theorem ValRel.iface_inv {t : TypeId} {v : AVal} (h : ValRel m (.iface t v) c) : ∃ d, c = .iface t d ∧ ValRel m v d := by
  cases h with | iface _ _ d h => exact ⟨d, rfl, h⟩
theorem ValRel.skip_inv (h : ValRel m (.tuple []) c) : c = .tuple #[] := by
  obtain ⟨cs, rfl, h1, _⟩ := h.tuple_inv
  have : cs = #[] := Array.eq_empty_of_size_eq_zero (by simpa using h1.symm)
  rw [this]
theorem ValRel.skip : ValRel m (.tuple []) Go.undef := .tuple [] #[] rfl (fun i v c h _ => by simp at h)
end

/-- Lists of cells and rows of cells. -/
def RowRel (m : Plc) (vs : List AVal) (cs : Array Value) : Prop :=
  vs.length = cs.size ∧ ∀ (i : Nat) (v : AVal) (c : Value), vs[i]? = some v → cs[i]? = some c → ValRel m v c ∧ c.oneCell' = true

theorem RowRel.mono {m m' : Plc} (hm : m.le m') {vs : List AVal} {cs : Array Value} (h : RowRel m vs cs) : RowRel m' vs cs :=
  ⟨h.1, fun i v c a b => ⟨(h.2 i v c a b).1.mono hm, (h.2 i v c a b).2⟩⟩

theorem RowRel.nil (m : Plc) : RowRel m [] #[] := ⟨rfl, fun i v c a _ => by simp at a⟩

theorem RowRel.at {m : Plc} {vs : List AVal} {cs : Array Value} (h : RowRel m vs cs) {i : Nat} {v : AVal} (hv : vs[i]? = some v) : ∃ c, cs[i]? = some c ∧ ValRel m v c ∧ c.oneCell' = true := by
  have hi : i < vs.length := by
    rcases Nat.lt_or_ge i vs.length with h | h
    · exact h
    · simp [List.getElem?_eq_none h] at hv
  have hc : i < cs.size := h.1 ▸ hi
  exact ⟨cs[i], by simp [hc], h.2 i v _ hv (by simp [hc])⟩

theorem RowRel.one {m : Plc} {vs : List AVal} {cs : Array Value} (h : RowRel m vs cs) {i : Nat} {c : Value} (hc : cs[i]? = some c) : c.oneCell' = true := by
  have hi : i < cs.size := by
    rcases Nat.lt_or_ge i cs.size with h | h
    · exact h
    · simp [Array.getElem?_eq_none h] at hc
  have hv : i < vs.length := h.1 ▸ hi
  exact (h.2 i vs[i] c (by simp) hc).2

theorem RowRel.append {m : Plc} {vs us : List AVal} {cs ds : Array Value} (h : RowRel m vs cs) (h' : RowRel m us ds) : RowRel m (vs ++ us) (cs ++ ds) := by
  refine ⟨by simp [h.1, h'.1], fun i v c hv hc => ?_⟩
  by_cases hi : i < vs.length
  · rw [List.getElem?_append_left hi] at hv
    rw [Array.getElem?_append_left (h.1 ▸ hi)] at hc
    exact h.2 i v c hv hc
  · rw [List.getElem?_append_right (by omega)] at hv
    rw [Array.getElem?_append_right (by have := h.1; omega), ← h.1] at hc
    exact h'.2 _ v c hv hc

theorem RowRel.agg {m : Plc} {vs : List AVal} {cs : Array Value} (h : RowRel m vs cs) : ValRel m (.agg vs) (.agg cs) :=
  .agg vs cs h.1 (fun i v c a b => (h.2 i v c a b).1) (fun _ _ hc => h.one hc)

theorem ValRel.agg_row {m : Plc} {vs : List AVal} {c : Value} (h : ValRel m (.agg vs) c) : ∃ cs, c = .agg cs ∧ RowRel m vs cs := by
  obtain ⟨cs, rfl, h1, h2, h3⟩ := h.agg_inv
  exact ⟨cs, rfl, h1, fun i v c a b => ⟨h2 i v c a b, h3 i c b⟩⟩

theorem ValRel.oneCell {m : Plc} {v : AVal} {c : Value} (h : ValRel m v c) (h1 : ∀ vs, v ≠ .agg vs) (h2 : ∀ vs, v ≠ .tuple vs) (h3 : v ≠ .undef) : c.oneCell' = true := by
  cases h with
  | undef => exact absurd rfl h3
  | agg vs => exact absurd rfl (h1 vs)
  | tuple vs => exact absurd rfl (h2 vs)
  | _ => rfl

theorem RowRel.single {m : Plc} {v : AVal} {c : Value} (h : ValRel m v c) (h1 : c.oneCell' = true) : RowRel m [v] #[c] :=
  ⟨rfl, fun i u d hu hd => by
    cases i with
    | zero => simp at hu hd; subst hu hd; exact ⟨h, h1⟩
    | succ i => simp at hu⟩

theorem cells_of_one {c : Value} (h : c.oneCell' = true) : c.cells = #[c] := by cases c <;> first | rfl | cases h

/-- The cells of a value. -/
theorem ValRel.row {m : Plc} {v : AVal} {c : Value} (h : ValRel m v c) (hs : v.solid = true) : RowRel m v.cells c.cells := by
  by_cases ha : ∃ vs, v = .agg vs
  · obtain ⟨vs, rfl⟩ := ha
    obtain ⟨cs, rfl, hr⟩ := h.agg_row
    exact hr
  · have h1 : ∀ vs, v ≠ .agg vs := fun vs e => ha ⟨vs, e⟩
    have hone := h.oneCell h1 (fun vs e => by subst e; cases hs) (fun e => by subst e; cases hs)
    have hv : v.cells = [v] := by cases v <;> first | rfl | exact absurd rfl (h1 _)
    rw [hv, cells_of_one hone]
    exact RowRel.single h hone

/-! Placing a new block -/

def Plc.add (m : Plc) (id : Nat) (pl : Pl) : Plc := fun i e => if i = id ∧ e = 0 then some pl else m i e

theorem Plc.add_at (m : Plc) (id : Nat) (pl : Pl) : m.add id pl id 0 = some pl := by simp [Plc.add]

theorem Plc.le_add {m : Plc} {id : Nat} (h : ∀ e, m id e = none) (pl : Pl) : m.le (m.add id pl) := by
  intro i e q hq
  unfold Plc.add
  split
  · rename_i hh; obtain ⟨rfl, rfl⟩ := hh; rw [h] at hq; cases hq
  · exact hq

theorem Plc.add_inv {m : Plc} {id i e : Nat} {pl q : Pl} (h : m.add id pl i e = some q) : (i = id ∧ e = 0 ∧ q = pl) ∨ m i e = some q := by
  unfold Plc.add at h
  split at h
  · rename_i hh; obtain ⟨a, b⟩ := hh; exact .inl ⟨a, b, (Option.some.inj h).symm⟩
  · exact .inr h

theorem CellsRel.mono {m m' : Plc} {w w' : World} {cs : List AVal} {pl : Pl} (hm : m.le m') (hb : w'.heap[pl.blk]? = w.heap[pl.blk]?) (h : CellsRel m w cs pl) : CellsRel m' w' cs pl := by
  obtain ⟨a, ccs, el, lo, hi, b, d, e, f⟩ := h
  exact ⟨a, ccs, el, lo, hi, hb.trans b, d, e, fun i v c h0 h1 h2 h3 => ⟨(f i v c h0 h1 h2 h3).1.mono hm, (f i v c h0 h1 h2 h3).2⟩⟩

theorem PairsRel.mono {m m' : Plc} (hm : m.le m') {es : List (AVal × AVal)} {cs : List MapEntry} (h : PairsRel m es cs) : PairsRel m' es cs :=
  ⟨h.1, fun i p c a b => ⟨(h.2 i p c a b).1.mono hm, (h.2 i p c a b).2.mono hm⟩⟩

/-- A block of the abstract memory that lies nowhere yet is laid at the end of the heap. -/
theorem MemRel.place {m : Plc} {M : Mem} {w w' : World} {id : Nat} {b : ABlock} {o : Obj} {pl : Pl} (h : MemRel m M w) (hpl : pl.blk = w.heap.size) (hg : M.get id = some b) (hn : ∀ e, m id e = none)
    (hw : w'.heap = w.heap.push o) (hb : BlockRel (m.add id pl) w' id b) : MemRel (m.add id pl) M w' := by
  have hle := Plc.le_add hn pl
  have hsz : w'.heap.size = w.heap.size + 1 := by rw [hw]; simp
  have hold : ∀ β, β < w.heap.size → w'.heap[β]? = w.heap[β]? := fun β hβ => by rw [hw, Array.getElem?_push]; simp; omega
  refine ⟨?_, ?_, ?_⟩
  · intro i e q hp
    rcases Plc.add_inv hp with ⟨rfl, rfl, rfl⟩ | hq
    · exact ⟨(h.block i b hg).1, by omega⟩
    · have := h.dom i e q hq; exact ⟨this.1, by omega⟩
  · intro i e i' e' q q' hp hp' hro heq
    rcases Plc.add_inv hp with ⟨rfl, rfl, rfl⟩ | hq
    · rcases Plc.add_inv hp' with ⟨rfl, rfl, rfl⟩ | hq'
      · rfl
      · have := (h.dom i' e' q' hq').2; omega
    · rcases Plc.add_inv hp' with ⟨rfl, rfl, rfl⟩ | hq'
      · have := (h.dom i e q hq).2; omega
      · exact h.apart i e i' e' q q' hq hq' hro heq
  · intro i b' hb'
    refine ⟨(h.block i b' hb').1, ?_⟩
    by_cases hi : i = id
    · subst hi; rw [hg] at hb'; cases hb'; exact hb
    · have hbl := (h.block i b' hb').2
      cases b' with
      | cells cs ep lo =>
        refine ⟨hbl.1, fun e pl he hp => ?_⟩
        rcases Plc.add_inv hp with ⟨rfl, _, _⟩ | hq
        · exact absurd rfl hi
        · obtain ⟨x, y, z⟩ := hbl.2 e pl he hq
          exact ⟨x, y, z.mono hle (hold _ (h.dom i e pl hq).2)⟩
      | map es =>
        intro pl hp
        rcases Plc.add_inv hp with ⟨rfl, _, _⟩ | hq
        · exact absurd rfl hi
        · obtain ⟨r, ents, clock, x, y⟩ := hbl pl hq
          exact ⟨r, ents, clock, (hold _ (h.dom i 0 pl hq).2).trans x, y.mono hle⟩

/-- A block more in the abstract memory, which lies nowhere. -/
theorem MemRel.grow {m : Plc} {M : Mem} {w : World} (h : MemRel m M w) (b : ABlock) (hlo : ∀ cs ep lo, b = .cells cs ep lo → lo ≤ ep) : MemRel m (M.alloc b) w := by
  have hn : ∀ e, m M.next e = none := fun e => by
    cases hq : m M.next e with
    | none => rfl
    | some pl => exact absurd (h.dom _ _ _ hq).1 (Nat.lt_irrefl _)
  refine ⟨fun id e pl hp => ⟨Nat.lt_succ_of_lt (h.dom id e pl hp).1, (h.dom id e pl hp).2⟩, h.apart, ?_⟩
  intro id b' hb'
  rw [Mem.get_alloc] at hb'
  split at hb'
  · rename_i hi; subst hi; cases hb'
    refine ⟨Nat.lt_succ_self _, ?_⟩
    cases b with
    | cells cs ep lo => exact ⟨hlo _ _ _ rfl, fun e pl _ hp => by rw [hn] at hp; cases hp⟩
    | map es => intro pl hp; rw [hn] at hp; cases hp
  · exact ⟨Nat.lt_succ_of_lt (h.block id b' hb').1, (h.block id b' hb').2⟩

theorem MemRel.none_next {m : Plc} {M : Mem} {w : World} (h : MemRel m M w) (e : Nat) : m M.next e = none := by
  cases hq : m M.next e with
  | none => rfl
  | some pl => exact absurd (h.dom _ _ _ hq).1 (Nat.lt_irrefl _)

theorem MemRel.get_next {m : Plc} {M : Mem} {w : World} (h : MemRel m M w) : M.get M.next = none := by
  cases hq : M.get M.next with
  | none => rfl
  | some b => exact absurd (h.block _ _ hq).1 (Nat.lt_irrefl _)

theorem MemRel.alloc {m : Plc} {M : Mem} {w w' : World} {b : ABlock} {o : Obj} {pl : Pl} (h : MemRel m M w) (hpl : pl.blk = w.heap.size) (hw : w'.heap = w.heap.push o)
    (hb : BlockRel (m.add M.next pl) w' M.next b) : MemRel (m.add M.next pl) (M.alloc b) w' :=
  (h.grow b (fun cs ep lo e => by subst e; exact hb.1)).place hpl (by rw [Mem.get_alloc]; simp) h.none_next hw hb

theorem Fr.alloc {m : Plc} {M : Mem} {w w' : World} {b : ABlock} {o : Obj} {pl : Pl} (h : MemRel m M w) (hw : w'.heap = w.heap.push o) (hpl : pl.blk = w.heap.size)
    (ho : w'.os = w.os) (ht : w'.tape = w.tape) (hp : w'.output = w.output) : Fr m M w (m.add M.next pl) (M.alloc b) w' where
  le := Plc.le_add h.none_next pl
  phantom id hid hn := by
    refine ⟨fun e => ?_, ?_⟩
    · cases hq : m.add M.next pl id e with
      | none => rfl
      | some q =>
        rcases Plc.add_inv hq with ⟨rfl, _, _⟩ | hq
        · exact absurd hid (Nat.lt_irrefl _)
        · rw [hn] at hq; cases hq
    · rw [Mem.get_alloc, if_neg (by omega)]
  next := Nat.le_succ _
  size := by rw [hw]; simp
  kept β hβ _ := by rw [hw, Array.getElem?_push]; simp; omega
  fresh β hw' := by
    obtain ⟨i, c, q, h1, h2, h3⟩ := hw'
    rcases Plc.add_inv h2 with ⟨_, _, rfl⟩ | hq
    · right; omega
    · rw [Mem.get_alloc] at h1
      split at h1
      · rename_i hi; subst hi; rw [h.none_next] at hq; cases hq
      · exact .inl ⟨i, c, q, h1, hq, h3⟩
  os := ho
  tape := ht
  output := hp

/-- The new block holds these cells. -/
theorem BlockRel.newCells {m m' : Plc} {w w' : World} {id : Nat} {cs : List AVal} {ccs : Array Value} {el : TypeId} {lo hi : Nat} (hm : m.le m')
    (hm' : ∀ e pl, m' id e = some pl → e = 0 ∧ pl.blk = w.heap.size ∧ pl.ext = cs.length ∧ pl.tot = ccs.size ∧ pl.ro = false) (hw : w'.heap = w.heap.push (.cells ccs el (lo, hi))) (hlo : ccs.size ≤ lo ∨ hi ≤ lo)
    (hr : ∀ (i : Nat) (v : AVal) (c : Value), cs[i]? = some v → ccs[i]? = some c → ValRel m v c ∧ c.oneCell' = true) : BlockRel m' w' id (.cells cs 0 0) := by
  refine ⟨Nat.le_refl _, fun e pl _ hp => ?_⟩
  obtain ⟨rfl, h1, h2, h3, h4⟩ := hm' e pl hp
  refine ⟨Nat.le_refl _, fun _ => ⟨h2, h4⟩, by omega, ccs, el, lo, hi, by rw [h1, hw]; simp, by omega, fun _ i h => by omega, fun i v c _ _ h2 h3 => ⟨(hr i v c h2 h3).1.mono hm, (hr i v c h2 h3).2⟩⟩

theorem Plc.add_only {m : Plc} {M : Mem} {w : World} (h : MemRel m M w) {pl : Pl} : ∀ e q, m.add M.next pl M.next e = some q → e = 0 ∧ q = pl := by
  intro e q hq
  rcases Plc.add_inv hq with ⟨_, he, hq⟩ | hq
  · exact ⟨he, hq⟩
  · rw [h.none_next] at hq; cases hq

/-! Loads -/

theorem loadCells_inv {M : Mem} {a : AAddr} {n : Nat} {vs : List AVal} (h : loadCells M a n = some vs) :
    ∃ cs ep lo, M.get a.id = some (.cells cs ep lo) ∧ lo ≤ a.ep ∧ a.off + n ≤ a.lim ∧ vs = (cs.drop a.off).take n := by
  unfold loadCells at h
  split at h
  · rename_i cs ep lo hg
    split at h
    · rename_i h1 h2
      exact ⟨cs, ep, lo, hg, Nat.le_of_ble_eq_true h1, Nat.le_of_ble_eq_true h2, by rw [← Option.some.inj h, takeL_eq, dropL_eq]⟩
    · cases h
  · cases h

theorem loadCells_rel {m : Plc} {M : Mem} {w : World} (hM : MemRel m M w) {a : AAddr} {n : Nat} {vs : List AVal} (h : loadCells M a n = some vs) {pl : Pl} (hp : m a.id a.ep = some pl) (hl : a.lim ≤ pl.ext ∧ pl.frm ≤ a.off) :
    vs.length = n ∧ ∃ cs : List Value, cs.length = n ∧ (∀ (j : Nat) (c : Value), cs[j]? = some c → w.cell? ⟨pl.blk, a.off + j, none⟩ = some c) ∧
      RowRel m vs cs.toArray := by
  obtain ⟨cs, ep, lo, hg, h1, h2, rfl⟩ := loadCells_inv h
  obtain ⟨_, _, hb⟩ := hM.block _ _ hg
  obtain ⟨_, _, hc⟩ := hb a.ep pl h1 hp
  obtain ⟨hx, ccs, el, flo, fhi, hw, htot, hfr, hrel⟩ := hc
  have hxt := pl.le
  have hlen : ((cs.drop a.off).take n).length = n := by simp; omega
  refine ⟨hlen, (ccs.toList.drop a.off).take n, by simp; omega, ?_, by simp; omega, ?_⟩
  · intro j c hj
    rw [List.getElem?_take] at hj
    split at hj
    · rw [List.getElem?_drop] at hj
      simp [World.cell?, hw]
      simpa using hj
    · cases hj
  · intro j v c hv hc
    rw [List.getElem?_toArray] at hc
    rw [List.getElem?_take] at hv hc
    split at hv
    · rename_i hj
      rw [if_pos hj, List.getElem?_drop] at hc
      rw [List.getElem?_drop] at hv
      exact hrel (a.off + j) v c (by omega) (by omega) hv (by simpa using hc)
    · cases hv

/-! Stores -/

theorem overlay_length (cs : List AVal) : ∀ (off : Nat) (vs : List AVal), off + vs.length ≤ cs.length → (overlay cs off vs).length = cs.length := by
  induction cs with
  | nil =>
    intro off vs h
    have h0 : off = 0 := by simp at h; omega
    have h1 : vs = [] := List.eq_nil_of_length_eq_zero (by simp only [List.length_nil] at h; omega)
    subst h0 h1; rfl
  | cons c cs ih =>
    intro off vs h
    cases off with
    | zero => simp [overlay]; simp at h; omega
    | succ off => simp only [overlay, List.length_cons]; rw [ih off vs (by simp at h; omega)]

theorem overlay_get (cs : List AVal) : ∀ (off : Nat) (vs : List AVal) (i : Nat), off + vs.length ≤ cs.length →
    (overlay cs off vs)[i]? = if off ≤ i ∧ i < off + vs.length then vs[i - off]? else cs[i]? := by
  induction cs with
  | nil =>
    intro off vs i h
    have h0 : off = 0 := by simp at h; omega
    have h1 : vs = [] := List.eq_nil_of_length_eq_zero (by simp only [List.length_nil] at h; omega)
    subst h0 h1
    simp [overlay]
  | cons c cs ih =>
    intro off vs i h
    cases off with
    | zero =>
      simp only [overlay, Nat.zero_le, true_and, Nat.zero_add, Nat.sub_zero]
      split
      · rename_i hi; rw [List.getElem?_append_left hi]
      · rename_i hi
        rw [List.getElem?_append_right (by omega), List.getElem?_drop]
        congr 1; omega
    | succ off =>
      simp only [overlay]
      cases i with
      | zero => simp
      | succ i =>
        rw [List.getElem?_cons_succ, ih off vs i (by simp at h; omega)]
        by_cases hi : off ≤ i ∧ i < off + vs.length
        · rw [if_pos hi, if_pos (by omega)]; congr 1; omega
        · rw [if_neg hi, if_neg (by omega)]; simp

theorem storeCells_inv {M M' : Mem} {a : AAddr} {vs : List AVal} (h : storeCells M a vs = some M') :
    ∃ cs ep lo, M.get a.id = some (.cells cs ep lo) ∧ a.ep = ep ∧ a.off + vs.length ≤ a.lim ∧ M' = M.set a.id (.cells (overlay cs a.off vs) ep ep) := by
  unfold storeCells at h
  split at h
  · rename_i cs ep lo hg
    split at h
    · rename_i h1 h2
      exact ⟨cs, ep, lo, hg, Nat.eq_of_beq_eq_true h1, Nat.le_of_ble_eq_true h2, by rw [← Option.some.inj h, overL_eq]⟩
    · cases h
  · cases h

/-- What a row of stores makes of a block. -/
theorem setCells_heap (b : Nat) : ∀ (vs : List Value) (o : Nat) (w : World) (ccs : Array Value) (el : TypeId) (fr : Nat × Nat), w.heap[b]? = some (.cells ccs el fr) →
    ∃ ccs', (w.setCells b o vs).heap[b]? = some (.cells ccs' el fr) ∧ ccs'.size = ccs.size ∧ (∀ i, ccs'[i]? = if o ≤ i ∧ i < o + vs.length ∧ i < ccs.size then vs[i - o]? else ccs[i]?) ∧
      (∀ β, β ≠ b → (w.setCells b o vs).heap[β]? = w.heap[β]?) ∧ (w.setCells b o vs).heap.size = w.heap.size ∧ (w.setCells b o vs).os = w.os ∧ (w.setCells b o vs).tape = w.tape ∧ (w.setCells b o vs).output = w.output := by
  intro vs
  induction vs with
  | nil => intro o w ccs el fr h; exact ⟨ccs, h, rfl, fun i => by rw [if_neg (by simp; omega)], fun _ _ => rfl, rfl, rfl, rfl, rfl⟩
  | cons v vs ih =>
    intro o w ccs el fr h
    have h1 : (w.setCell ⟨b, o, none⟩ v).heap[b]? = some (.cells (ccs.setIfInBounds o v) el fr) := by
      simp [World.setCell, Array.getElem?_modify, h]
    obtain ⟨ccs', a, b1, c, d, e, f, g, k⟩ := ih (o + 1) (w.setCell ⟨b, o, none⟩ v) _ el fr h1
    refine ⟨ccs', a, by rw [b1]; simp, fun i => ?_, fun β hβ => ?_, ?_, f, g, k⟩
    · rw [c i, Array.size_setIfInBounds]
      by_cases hi : o + 1 ≤ i ∧ i < o + 1 + vs.length ∧ i < ccs.size
      · rw [if_pos hi, if_pos (by simp only [List.length_cons]; omega)]
        have : i - o = (i - (o + 1)) + 1 := by omega
        rw [this]; simp
      · rw [if_neg hi]
        by_cases he : i = o
        · subst he
          by_cases hs : i < ccs.size
          · rw [if_pos (by simp only [List.length_cons]; omega)]; simp [hs]
          · rw [if_neg (by omega)]; simp [hs]
        · rw [if_neg (by simp only [List.length_cons]; omega), Array.getElem?_setIfInBounds_ne (Ne.symm he)]
    · show ((w.setCell ⟨b, o, none⟩ v).setCells b (o + 1) vs).heap[β]? = _
      rw [d β hβ]; simp [World.setCell, Array.getElem?_modify, Ne.symm hβ]
    · show ((w.setCell ⟨b, o, none⟩ v).setCells b (o + 1) vs).heap.size = _
      rw [e]; simp [World.setCell]

theorem storeCells_rel {P : Program} {m : Plc} {M M' : Mem} {w : World} (hM : MemRel m M w) {a : AAddr} {vs : List AVal} (h : storeCells M a vs = some M') {pl : Pl} (hp : m a.id a.ep = some pl)
    {cs : List Value} (hrow : RowRel m vs cs.toArray) (hl : a.lim ≤ pl.ext ∧ pl.frm ≤ a.off) :
    ∃ w', (Go.storeCells ⟨pl.blk, a.off, none⟩ cs).run P w = .ok () w' ∧ MemRel m M' w' ∧ Fr m M w m M' w' := by
  have hlen : vs.length = cs.length := by simpa using hrow.1
  have hr : ∀ (i : Nat) (v : AVal) (c : Value), vs[i]? = some v → cs[i]? = some c → ValRel m v c ∧ c.oneCell' = true := fun i v c a b => hrow.2 i v c a (by simpa using b)
  have h1 : ∀ c ∈ cs, c.oneCell' = true := fun c hc => by
    obtain ⟨i, hi, rfl⟩ := List.getElem_of_mem hc
    exact hrow.one (i := i) (by simp [hi])
  obtain ⟨acs, ep, lo, hg, rfl, hlim, rfl⟩ := storeCells_inv h
  obtain ⟨hid, hlo, hb⟩ := hM.block _ _ hg
  obtain ⟨_, hxe, hx, ccs, el, flo, fhi, hw, htot, hfr, hrel⟩ := hb a.ep pl hlo hp
  have hxt := pl.le
  obtain ⟨hxe, hro⟩ := hxe rfl
  have hfr' := hfr hro
  obtain ⟨ccs', g1, g2, g3, g4, g5, g6, g7, g8⟩ := setCells_heap pl.blk cs a.off w ccs el (flo, fhi) hw
  have hrun := run_storeCells_cells (P := P) pl.blk a.off cs 0 w
    (fun j hj => by simp [World.cell?, hw]; omega)
    (fun j hj => by
      have := hfr' (a.off + 0 + j) (by omega)
      simp [World.frozen?, hw]; omega) h1
  simp only [Nat.add_zero] at hrun
  refine ⟨_, hrun, ?_, ?_⟩
  · refine ⟨fun id e q hq => ⟨(hM.dom id e q hq).1, by rw [g5]; exact (hM.dom id e q hq).2⟩, hM.apart, ?_⟩
    intro id b' hb'
    rw [Mem.get_set] at hb'
    split at hb'
    · rename_i hi; subst hi; cases hb'
      refine ⟨hid, Nat.le_refl _, fun e q he hq => ?_⟩
      obtain ⟨he1, _⟩ := hb e q (Nat.le_trans hlo he) hq
      have hee : e = a.ep := by omega
      subst hee
      rw [hp] at hq; cases hq
      have hol : (overlay acs a.off vs).length = acs.length := overlay_length acs a.off vs (by omega)
      refine ⟨Nat.le_refl _, fun _ => ⟨by omega, hro⟩, by omega, ccs', el, flo, fhi, g1, by omega, hfr, ?_⟩
      intro i v c hf hi hv hc
      rw [overlay_get acs a.off vs i (by omega)] at hv
      rw [g3 i] at hc
      by_cases hin : a.off ≤ i ∧ i < a.off + vs.length
      · rw [if_pos hin] at hv
        rw [if_pos (by omega)] at hc
        exact hr _ v c hv hc
      · rw [if_neg hin] at hv
        rw [if_neg (by omega)] at hc
        exact hrel i v c hf hi hv hc
    · rename_i hi
      refine ⟨(hM.block id b' hb').1, ?_⟩
      have hbl := (hM.block id b' hb').2
      cases b' with
      | cells cs2 ep2 lo2 =>
        refine ⟨hbl.1, fun e q he hq => ?_⟩
        obtain ⟨x, y, z⟩ := hbl.2 e q he hq
        refine ⟨x, y, z.mono (Plc.le_refl m) (g4 _ (fun hbl => hi (hM.apart a.id a.ep id e pl q hp hq hro hbl.symm).symm))⟩
      | map es =>
        intro q hq
        obtain ⟨r, ents, clock, x, y⟩ := hbl q hq
        exact ⟨r, ents, clock, (g4 _ (fun hbl => hi (hM.apart a.id a.ep id 0 pl q hp hq hro hbl.symm).symm)).trans x, y⟩
  · refine ⟨Plc.le_refl m, fun id hid' hn => ⟨hn, ?_⟩, Nat.le_refl _, by rw [g5]; exact Nat.le_refl _, fun β _ hn => g4 β (fun hb => hn ⟨a.id, _, pl, hg, hp, hb.symm⟩), fun β hw => .inl (Wr.of_set (b' := .cells (overlay acs a.off vs) a.ep a.ep) hg rfl hw), g6, g7, g8⟩
    rw [Mem.get_set, if_neg (fun hi => by subst hi; rw [hn] at hp; cases hp)]

end Go.VE
