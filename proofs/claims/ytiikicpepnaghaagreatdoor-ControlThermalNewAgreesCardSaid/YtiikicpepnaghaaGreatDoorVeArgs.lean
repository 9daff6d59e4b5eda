/-
  Arguments that are data: what the model reads of them, laid as blocks that are only read.
-/
import Derived.Test.YtiikicpepnaghaaGreatDoorVeRow
namespace Go.VE

section
variable {H : Type}

/-- The abstract memory's own reading of data. -/
inductive Rd (P : Program) (M : Mem) : TypeId → List AVal → DataW H → Prop
  | bool {t : TypeId} (b : Bool) : P.underlying t = some .bool → Rd P M t [.bool b] (.lit (.bool b))
  | int {t : TypeId} {k : IntKind} (n : Int) : P.underlying t = some (.int k) → (Lit.int k n).wf = true → Rd P M t [.int k n] (.lit (.int k n))
  | str {t : TypeId} (s : List UInt8) : P.underlying t = some .string → s.length ≤ maxLen → Rd P M t [.str s] (.lit (.string s))
  | nil {t e : TypeId} : P.underlying t = some (.slice e) → Rd P M t [.nilSlice] .nil
  | empty {t e : TypeId} : P.underlying t = some (.slice e) → Rd P M t [.emptySl] (.slice [] [])
  | slice {t e : TypeId} {id off len cap : Nat} {cs : List AVal} {elems spare : List (DataW H)} : P.underlying t = some (.slice e) → M.get id = some (.cells cs 1 0) → cs.length = off + cap * P.cellsOf e → elems.length = len →
      elems.length + spare.length = cap → 0 < cap → cap ≤ maxLen → 0 < P.cellsOf e → (∀ (i : Nat) (d : DataW H), (elems ++ spare)[i]? = some d → Rd P M e ((cs.drop (off + i * P.cellsOf e)).take (P.cellsOf e)) d) →
      Rd P M t [.slice ⟨id, off, 0, off + cap * P.cellsOf e⟩ (P.cellsOf e) len cap true] (.slice elems spare)
  | agg {t : TypeId} {fs : Array Field} {vs : List AVal} {ds : List (DataW H)} : P.underlying t = some (.struct fs) → vs.length = P.cellsOf t → ds.length = fs.size →
      (∀ (i : Nat) (f : Field) (d : DataW H), fs.toList[i]? = some f → ds[i]? = some d → Rd P M f.type ((vs.drop f.offset).take (P.cellsOf f.type)) d) → Rd P M t vs (.agg ds)

theorem Rd.mono {P : Program} {M M' : Mem} (hs : Sub M M') {t : TypeId} {vs : List AVal} {d : DataW H} (h : Rd P M t vs d) : Rd P M' t vs d := by
  induction h with
  | bool b h => exact .bool b h
  | int n h hw => exact .int n h hw
  | str s h hw => exact .str s h hw
  | nil h => exact .nil h
  | empty h => exact .empty h
  | slice h hg h1 h2 h3 h4 h5 h6 _ ih => exact .slice h (hs _ _ hg) h1 h2 h3 h4 h5 h6 ih
  | agg h h1 h2 _ ih => exact .agg h h1 h2 ih

end

section
variable {P : Program}

def contig (P : Program) : List Field → Nat → Option Nat
  | [], n => some n
  | f :: fs, n => match Nat.beq f.offset n with
    | true => contig P fs (n + P.cellsOf f.type)
    | false => none

/-- Types that are read so. -/
def okT (P : Program) : Nat → TypeId → Bool
  | 0, _ => false
  | n + 1, t => match P.underlying t with
    | some .bool => true
    | some .string => true
    | some (.int _) => true
    | some (.slice e) => Nat.blt 0 (P.cellsOf e) && okT P n e
    | some (.struct fs) => (contig P fs.toList 0 == some (P.cellsOf t)) && fs.toList.all (fun f => okT P n f.type)
    | _ => false

theorem contig_le : ∀ (fs : List Field) (a b : Nat), contig P fs a = some b → a ≤ b := by
  intro fs
  induction fs with
  | nil => intro a b h; cases h; exact Nat.le_refl _
  | cons f fs ih =>
    intro a b h
    unfold contig at h
    split at h
    · have := ih _ _ h; omega
    · cases h

/-- Nothing may be written. -/
structure RoM (m : Plc) (M : Mem) : Prop where
  pl : ∀ id e q, m id e = some q → e = 0 ∧ q.ro = true
  blk : ∀ id b, M.get id = some b → ∃ cs, b = .cells cs 1 0

theorem RoM.not_wr {m : Plc} {M : Mem} (h : RoM m M) (β : Nat) : ¬ Wr m M β := by
  rintro ⟨id, b, q, h1, h2, _⟩
  obtain ⟨cs, rfl⟩ := h.blk id b h1
  have := (h.pl id _ q h2).1
  cases this

theorem RoM.none : RoM (fun _ _ => none) .empty := ⟨fun _ _ _ h => (by cases h), fun _ _ h => (by rw [Mem.get_empty] at h; cases h)⟩

/-- What laying leaves. -/
structure Laid (W : World) (m : Plc) (M : Mem) (m' : Plc) (M' : Mem) : Prop where
  mem : MemRel m' M' W
  le : m.le m'
  ro : RoM m' M'
  sub : Sub M M'

theorem Laid.refl {W : World} {m : Plc} {M : Mem} (h : MemRel m M W) (hr : RoM m M) : Laid W m M m M := ⟨h, Plc.le_refl m, hr, Sub.refl M⟩
theorem Laid.trans {W : World} {m m1 m2 : Plc} {M M1 M2 : Mem} (h : Laid W m M m1 M1) (h' : Laid W m1 M1 m2 M2) : Laid W m M m2 M2 :=
  ⟨h'.mem, Plc.le_trans h.le h'.le, h'.ro, h.sub.trans h'.sub⟩

theorem mapM_inv {α β : Type} {f : α → Option β} : ∀ (l : List α) (r : List β), l.mapM f = some r → r.length = l.length ∧ ∀ (i : Nat) (x : α), l[i]? = some x → ∃ y, r[i]? = some y ∧ f x = some y := by
  intro l
  induction l with
  | nil => intro r h; simp at h; subst h; exact ⟨rfl, fun i x hx => by simp at hx⟩
  | cons a l ih =>
    intro r h
    rw [List.mapM_cons] at h
    cases ha : f a with
    | none => rw [ha] at h; cases h
    | some b =>
      rw [ha] at h
      cases hl : l.mapM f with
      | none => rw [hl] at h; cases h
      | some r' =>
        rw [hl] at h
        cases h
        obtain ⟨h1, h2⟩ := ih r' hl
        refine ⟨by simp [h1], fun i x hx => ?_⟩
        cases i with
        | zero => cases hx; exact ⟨b, rfl, ha⟩
        | succ i => exact h2 i x (by simpa using hx)

theorem add_block (a : Addr) (i : Nat) : (a.add i).block = a.block := by unfold Addr.add; split <;> rfl
theorem add_off (a : Addr) (i : Nat) : (a.add i).off = a.off + i := by unfold Addr.add; split <;> simp_all
theorem add_spot {a : Addr} (h : a.spot = none) (i : Nat) : (a.add i).spot = none := by unfold Addr.add; split <;> first | exact h | rfl
theorem add_zero (a : Addr) : a.add 0 = a := by unfold Addr.add; simp

/-- Cells that are read one behind the other. -/
theorem cells_inv {W : World} {a : Addr} {n : Nat} {cs : List Value} (h : W.cells? 0 a n = some cs) (hn : 0 < n) :
    a.spot = none ∧ ∃ ccs el fr, W.heap[a.block]? = some (.cells ccs el fr) ∧ a.off + n ≤ ccs.size ∧ cs = (ccs.toList.drop a.off).take n := by
  unfold World.cells? at h
  rw [if_pos (Nat.zero_le _)] at h
  obtain ⟨h1, h2⟩ := mapM_inv _ _ h
  have hc : ∀ i, i < n → ∃ y, cs[i]? = some y ∧ W.cell? (a.add i) = some y := fun i hi => h2 i i (by simp [hi])
  obtain ⟨y, hy, h0⟩ := hc 0 hn
  unfold World.cell? at h0
  split at h0
  · rename_i ccs el fr hb
    have hb : W.heap[a.block]? = some (.cells ccs el fr) := by rw [add_block] at hb; exact hb
    have hs : a.spot = none := by
      cases hsp : a.spot with
      | none => rfl
      | some s =>
        have : (a.add 0).spot.isSome = true := by rw [add_zero, hsp]; rfl
        rw [this] at h0; cases h0
    have hg : ∀ i, i < n → ∃ y, cs[i]? = some y ∧ ccs[a.off + i]? = some y := by
      intro i hi
      obtain ⟨y, hy, h0⟩ := hc i hi
      refine ⟨y, hy, ?_⟩
      have e1 : (a.add i).block = a.block := add_block a i
      have e2 : (a.add i).spot = none := add_spot hs i
      have e3 : (a.add i).off = a.off + i := add_off a i
      unfold World.cell? at h0
      rw [e1, hb] at h0
      simp only [e2, e3] at h0
      simpa using h0
    refine ⟨hs, ccs, el, fr, hb, ?_, ?_⟩
    · obtain ⟨y, _, hy⟩ := hg (n - 1) (by omega)
      have : a.off + (n - 1) < ccs.size := by
        rcases Nat.lt_or_ge (a.off + (n - 1)) ccs.size with h | h
        · exact h
        · rw [Array.getElem?_eq_none h] at hy; cases hy
      omega
    · apply List.ext_getElem?
      intro i
      have hl : cs.length = n := by simpa using h1
      by_cases hi : i < n
      · obtain ⟨y, hy, hz⟩ := hg i hi
        rw [hy, List.getElem?_take, if_pos hi, List.getElem?_drop]
        simpa using hz.symm
      · rw [List.getElem?_eq_none (by omega), List.getElem?_take, if_neg hi]
  · cases h0

/-- A row of cells laid as a block that is only read. -/
theorem lay_block {W : World} {m : Plc} {M : Mem} (hM : MemRel m M W) (hr : RoM m M) {b off n : Nat} {ccs : Array Value} {el : TypeId} {fr : Nat × Nat} (hb : W.heap[b]? = some (.cells ccs el fr)) (hn : off + n ≤ ccs.size)
    {vs : List AVal} (hl : vs.length = n) (hv : ∀ (i : Nat) (v : AVal) (c : Value), vs[i]? = some v → ccs[off + i]? = some c → ValRel m v c ∧ c.oneCell' = true) :
    Laid W m M (m.add M.next ⟨b, off + n, off + n, Nat.le_refl _, true, off⟩) (M.alloc (.cells (List.replicate off .undef ++ vs) 1 0)) := by
  have hle := Plc.le_add hM.none_next (⟨b, off + n, off + n, Nat.le_refl _, true, off⟩ : Pl)
  have hbs : b < W.heap.size := by
    rcases Nat.lt_or_ge b W.heap.size with h | h
    · exact h
    · rw [Array.getElem?_eq_none h] at hb; cases hb
  refine ⟨⟨?_, ?_, ?_⟩, hle, ⟨?_, ?_⟩, ?_⟩
  · intro i e q hq
    rcases Plc.add_inv hq with ⟨rfl, _, rfl⟩ | hq
    · exact ⟨Nat.lt_succ_self _, hbs⟩
    · exact ⟨Nat.lt_succ_of_lt (hM.dom i e q hq).1, (hM.dom i e q hq).2⟩
  · intro i e i' e' q q' hq hq' hro _
    rcases Plc.add_inv hq with ⟨_, _, rfl⟩ | hq
    · cases hro
    · rw [(hr.pl i e q hq).2] at hro; cases hro
  · intro i b' hb'
    rw [Mem.get_alloc] at hb'
    split at hb'
    · rename_i hi; subst hi; cases hb'
      refine ⟨Nat.lt_succ_self _, Nat.zero_le _, fun e q _ hq => ?_⟩
      obtain ⟨rfl, rfl⟩ := Plc.add_only hM e q hq
      refine ⟨Nat.zero_le _, fun h => (by cases h), by simp [hl], ccs, el, fr.1, fr.2, hb, hn, fun h => (by cases h), ?_⟩
      intro i v c hi _ hv' hc
      have hi : off ≤ i := hi
      rw [List.getElem?_append_right (by simpa using hi)] at hv'
      obtain ⟨h1, h2⟩ := hv (i - off) v c (by simpa using hv') (by rw [show off + (i - off) = i by omega]; exact hc)
      exact ⟨h1.mono hle, h2⟩
    · refine ⟨Nat.lt_succ_of_lt (hM.block i b' hb').1, ?_⟩
      have hbl := (hM.block i b' hb').2
      obtain ⟨cs, rfl⟩ := hr.blk i b' hb'
      rename_i hi
      refine ⟨hbl.1, fun e q he hq => ?_⟩
      rcases Plc.add_inv hq with ⟨h, _, _⟩ | hq
      · exact absurd h hi
      · obtain ⟨x, y, z⟩ := hbl.2 e q he hq
        exact ⟨x, y, z.mono hle rfl⟩
  · intro i e q hq
    rcases Plc.add_inv hq with ⟨_, he, rfl⟩ | hq
    · exact ⟨he, rfl⟩
    · exact hr.pl i e q hq
  · intro i b' hb'
    rw [Mem.get_alloc] at hb'
    split at hb'
    · cases hb'; exact ⟨_, rfl⟩
    · exact hr.blk i b' hb'
  · exact sub_alloc hM _

section
variable {H : Type} {enc : TypeId × Value → H} {W : World}

/-- What is to be shown of a type. -/
def Lays1 (P : Program) (enc : TypeId × Value → H) (W : World) (t : TypeId) : Prop :=
  ∀ (fuel : Nat) (cs : List Value) (x : DataW H × List MemPlace), DataW.trod enc P W 0 (fun _ => true) true fuel t cs = some x → ∀ m M, MemRel m M W → RoM m M →
    ∃ (m' : Plc) (M' : Mem) (vs : List AVal), Laid W m M m' M' ∧ RowRel m' vs cs.toArray ∧ Rd P M' t vs x.1

theorem lay_many {e : TypeId} (IH : Lays1 P enc W e) {fuel sz : Nat} (C : Nat → List Value) (X : Nat → DataW H × List MemPlace) : ∀ (n : Nat), (∀ i, i < n → (C i).length = sz ∧ DataW.trod enc P W 0 (fun _ => true) true fuel e (C i) = some (X i)) → ∀ m M, MemRel m M W → RoM m M →
    ∃ (m' : Plc) (M' : Mem) (vs : List AVal), Laid W m M m' M' ∧ vs.length = n * sz ∧ (∀ i, i < n → RowRel m' ((vs.drop (i * sz)).take sz) (C i).toArray ∧ Rd P M' e ((vs.drop (i * sz)).take sz) (X i).1) := by
  intro n
  induction n with
  | zero => intro _ m M hM hr; exact ⟨m, M, [], Laid.refl hM hr, by simp, fun i hi => absurd hi (Nat.not_lt_zero _)⟩
  | succ n ih =>
    intro h m M hM hr
    obtain ⟨m1, M1, vs1, l1, hlen, h1⟩ := ih (fun i hi => h i (by omega)) m M hM hr
    obtain ⟨hc, hx⟩ := h n (by omega)
    obtain ⟨m2, M2, vs2, l2, hrow, hrd⟩ := IH fuel (C n) (X n) hx m1 M1 l1.mem l1.ro
    have hl2 : vs2.length = sz := by have := hrow.1; simp at this; omega
    refine ⟨m2, M2, vs1 ++ vs2, l1.trans l2, by simp [hlen, hl2, Nat.succ_mul], fun i hi => ?_⟩
    by_cases hin : i < n
    · have hb : i * sz + sz ≤ n * sz := by rw [← Nat.succ_mul]; exact Nat.mul_le_mul_right _ hin
      have e : ((vs1 ++ vs2).drop (i * sz)).take sz = (vs1.drop (i * sz)).take sz := by
        rw [List.drop_append_of_le_length (by omega), List.take_append_of_le_length (by simp; omega)]
      rw [e]
      obtain ⟨a, b⟩ := h1 i hin
      exact ⟨a.mono l2.le, b.mono l2.sub⟩
    · have : i = n := by omega
      subst this
      have e : ((vs1 ++ vs2).drop (i * sz)).take sz = vs2 := by
        rw [← hlen, List.drop_left, ← hl2, List.take_length]
      rw [e]
      exact ⟨hrow, hrd⟩

theorem lay_fields {cs : List Value} {fuel fin : Nat} (hfin : fin ≤ cs.length) : ∀ (fs : List Field) (start : Nat), (∀ f ∈ fs, Lays1 P enc W f.type) → contig P fs start = some fin → ∀ (xs : List (DataW H × List MemPlace)), xs.length = fs.length →
    (∀ (i : Nat) (f : Field), fs[i]? = some f → DataW.trod enc P W 0 (fun _ => true) true fuel f.type ((cs.drop f.offset).take (P.cellsOf f.type)) = xs[i]?) → ∀ m M, MemRel m M W → RoM m M →
    ∃ (m' : Plc) (M' : Mem) (vs : List AVal), Laid W m M m' M' ∧ vs.length = fin - start ∧ (∀ (i : Nat) (v : AVal) (c : Value), vs[i]? = some v → cs[start + i]? = some c → ValRel m' v c ∧ c.oneCell' = true) ∧
      (∀ (i : Nat) (f : Field) (x : DataW H × List MemPlace), fs[i]? = some f → xs[i]? = some x → start ≤ f.offset ∧ Rd P M' f.type ((vs.drop (f.offset - start)).take (P.cellsOf f.type)) x.1) := by
  intro fs
  induction fs with
  | nil =>
    intro start _ hc xs hx _ m M hM hr
    cases hc
    exact ⟨m, M, [], Laid.refl hM hr, by simp, fun i v c hv => by simp at hv, fun i f x hf => by simp at hf⟩
  | cons f fs ih =>
    intro start hIH hc xs hxl hx m M hM hr
    unfold contig at hc
    split at hc
    · rename_i hbq
      have ho := Nat.eq_of_beq_eq_true hbq
      cases xs with
      | nil => simp at hxl
      | cons x0 xs1 =>
        have h0 : DataW.trod enc P W 0 (fun _ => true) true fuel f.type ((cs.drop f.offset).take (P.cellsOf f.type)) = some x0 := hx 0 f rfl
        have hle := contig_le _ _ _ hc
        obtain ⟨m1, M1, vs1, l1, hrow, hrd⟩ := hIH f (List.mem_cons_self) fuel _ x0 h0 m M hM hr
        obtain ⟨m2, M2, vs2, l2, hlen, hval, hrest⟩ := ih (start + P.cellsOf f.type) (fun g hg => hIH g (List.mem_cons_of_mem _ hg)) hc xs1 (by simpa using hxl) (fun i g hg => by simpa using hx (i + 1) g (by simpa using hg)) m1 M1 l1.mem l1.ro
        have hl1 : vs1.length = P.cellsOf f.type := by have := hrow.1; simp at this; omega
        refine ⟨m2, M2, vs1 ++ vs2, l1.trans l2, by simp [hlen, hl1]; omega, ?_, ?_⟩
        · intro i v c hv hcv
          by_cases hi : i < vs1.length
          · rw [List.getElem?_append_left hi] at hv
            obtain ⟨a, b⟩ := hrow.2 i v c hv (by
              rw [List.getElem?_toArray, List.getElem?_take, if_pos (by omega), List.getElem?_drop, ho]; exact hcv)
            exact ⟨a.mono l2.le, b⟩
          · rw [List.getElem?_append_right (by omega)] at hv
            exact hval (i - vs1.length) v c hv (by rw [← hl1, show start + vs1.length + (i - vs1.length) = start + i by omega]; exact hcv)
        · intro i g x hg hxi
          cases i with
          | zero =>
            cases hg; cases hxi
            refine ⟨by omega, ?_⟩
            rw [ho, Nat.sub_self, List.drop_zero, List.take_append_of_le_length (by omega), List.take_of_length_le (by omega)]
            exact hrd.mono l2.sub
          | succ i =>
            obtain ⟨a, b⟩ := hrest i g x (by simpa using hg) (by simpa using hxi)
            refine ⟨by omega, ?_⟩
            rw [List.drop_append, List.drop_of_length_le (by omega), List.nil_append, hl1, show g.offset - start - P.cellsOf f.type = g.offset - (start + P.cellsOf f.type) by omega]
            exact b
    · cases hc

/-- One cell. -/
theorem row_one {m : Plc} {v : AVal} {c : Value} (h : ValRel m v c) (h1 : c.oneCell' = true) : RowRel m [v] [c].toArray := by
  refine ⟨rfl, fun i u d hu hd => ?_⟩
  cases i with
  | zero => cases hu; cases hd; exact ⟨h, h1⟩
  | succ i => cases hu

theorem lays_all : ∀ (n : Nat) (t : TypeId), okT P n t = true → Lays1 P enc W t := by
  intro n
  induction n with
  | zero => intro t h; cases h
  | succ n ih =>
    intro t hok fuel cs x hx m M hM hr
    unfold okT at hok
    cases fuel with
    | zero => cases hx
    | succ fuel =>
      split at hok
      · rename_i ht
        obtain ⟨b, rfl, rfl⟩ := DataW.trod_bool ht hx
        exact ⟨m, M, [.bool b], Laid.refl hM hr, row_one (.bool b) rfl, .bool b ht⟩
      · rename_i ht
        obtain ⟨s, rfl, rfl, hs⟩ := DataW.trod_string ht hx
        exact ⟨m, M, [.str s.data.toList], Laid.refl hM hr, row_one (.str s.data.toList) rfl, .str _ ht (by simpa using hs)⟩
      · rename_i k ht
        obtain ⟨k', rfl, rfl, hw⟩ := DataW.trod_int ht hx
        exact ⟨m, M, [.int k k'], Laid.refl hM hr, row_one (.int k k') rfl, .int _ ht hw⟩
      · rename_i e ht
        simp only [Bool.and_eq_true] at hok
        have hsz : 0 < P.cellsOf e := nat_lt_of_blt hok.1
        have IH := ih e hok.2
        rcases DataW.trod_slice ht hx with ⟨rfl, rfl⟩ | ⟨a, len, cap, elems, rest, k, _, rfl, rfl, _, hlc, hmx, hel, hE, hR, _⟩
        · exact ⟨m, M, [.nilSlice], Laid.refl hM hr, row_one .nilSlice rfl, .nil ht⟩
        · obtain ⟨hrl, hR⟩ := hR rfl
          rcases Nat.eq_zero_or_pos cap with rfl | hcap
          · have h1 : elems = [] := List.eq_nil_of_length_eq_zero (by omega)
            have h2 : rest = [] := List.eq_nil_of_length_eq_zero (by omega)
            subst h1; subst h2
            have hl0 : len = 0 := by omega
            subst hl0
            exact ⟨m, M, [.emptySl], Laid.refl hM hr, row_one (.emptySl a 0) rfl, .empty ht⟩
          · have hAll : ∀ i, i < cap → ∃ cs x, W.cells? 0 (a.add (i * P.cellsOf e)) (P.cellsOf e) = some cs ∧ DataW.trod enc P W 0 (fun _ => true) true k e cs = some x ∧ (elems ++ rest)[i]? = some x := by
              intro i hi
              have h : (W.cells? 0 (a.add (i * P.cellsOf e)) (P.cellsOf e)).bind (DataW.trod enc P W 0 (fun _ => true) true k e) = (elems ++ rest)[i]? := by
                by_cases hil : i < len
                · rw [List.getElem?_append_left (by omega)]; exact hE i hil
                · rw [List.getElem?_append_right (by omega), hel]
                  have := hR (i - len) (by omega)
                  rwa [show len + (i - len) = i by omega] at this
              have hs : (elems ++ rest)[i]? ≠ none := by rw [Ne, List.getElem?_eq_none_iff]; simp; omega
              cases hq : (elems ++ rest)[i]? with
              | none => exact absurd hq hs
              | some x =>
                rw [hq] at h
                cases hc : W.cells? 0 (a.add (i * P.cellsOf e)) (P.cellsOf e) with
                | none => rw [hc] at h; cases h
                | some cs => rw [hc] at h; exact ⟨cs, x, rfl, h, rfl⟩
            obtain ⟨cs0, x0, hc0, _, _⟩ := hAll 0 hcap
            obtain ⟨hsp, ccs, el, fr, hb, _, _⟩ := cells_inv hc0 hsz
            have hsp : a.spot = none := by rw [Nat.zero_mul, add_zero] at hsp; exact hsp
            have hb : W.heap[a.block]? = some (.cells ccs el fr) := by rw [add_block] at hb; exact hb
            have hwin : ∀ i, i < cap → a.off + i * P.cellsOf e + P.cellsOf e ≤ ccs.size ∧ ∃ x, DataW.trod enc P W 0 (fun _ => true) true k e ((ccs.toList.drop (a.off + i * P.cellsOf e)).take (P.cellsOf e)) = some x ∧ (elems ++ rest)[i]? = some x := by
              intro i hi
              obtain ⟨cs, x, hc, ht', hx'⟩ := hAll i hi
              obtain ⟨_, ccs', el', fr', hb', hle, rfl⟩ := cells_inv hc hsz
              have hb' : W.heap[a.block]? = some (.cells ccs' el' fr') := by rw [add_block] at hb'; exact hb'
              rw [hb] at hb'
              cases hb'
              have e3 : (a.add (i * P.cellsOf e)).off = a.off + i * P.cellsOf e := add_off _ _
              rw [e3] at hle ht'
              exact ⟨hle, x, ht', hx'⟩
            let C : Nat → List Value := fun i => (ccs.toList.drop (a.off + i * P.cellsOf e)).take (P.cellsOf e)
            let X : Nat → DataW H × List MemPlace := fun i => ((elems ++ rest)[i]?).getD x0
            have hCX : ∀ i, i < cap → (C i).length = P.cellsOf e ∧ DataW.trod enc P W 0 (fun _ => true) true k e (C i) = some (X i) := by
              intro i hi
              obtain ⟨h1, x, h2, h3⟩ := hwin i hi
              refine ⟨by simp [C]; omega, ?_⟩
              show DataW.trod enc P W 0 (fun _ => true) true k e (C i) = some (((elems ++ rest)[i]?).getD x0)
              rw [h3]; exact h2
            obtain ⟨m1, M1, vs, l1, hlen, hval⟩ := lay_many IH C X cap hCX m M hM hr
            have hn : a.off + cap * P.cellsOf e ≤ ccs.size := by
              have := (hwin (cap - 1) (by omega)).1
              have e4 : cap * P.cellsOf e = (cap - 1) * P.cellsOf e + P.cellsOf e := by rw [← Nat.succ_mul]; congr 1; omega
              omega
            have hv : ∀ (i : Nat) (v : AVal) (c : Value), vs[i]? = some v → ccs[a.off + i]? = some c → ValRel m1 v c ∧ c.oneCell' = true := by
              intro i v c hiv hic
              have hi : i < cap * P.cellsOf e := by
                rw [← hlen]
                rcases Nat.lt_or_ge i vs.length with h | h
                · exact h
                · rw [List.getElem?_eq_none h] at hiv; cases hiv
              have hq : i / P.cellsOf e < cap := (Nat.div_lt_iff_lt_mul hsz).2 hi
              have hr' : i % P.cellsOf e < P.cellsOf e := Nat.mod_lt _ hsz
              have hdm : i / P.cellsOf e * P.cellsOf e + i % P.cellsOf e = i := by rw [Nat.mul_comm]; exact Nat.div_add_mod _ _
              refine (hval (i / P.cellsOf e) hq).1.2 (i % P.cellsOf e) v c ?_ ?_
              · rw [List.getElem?_take, if_pos hr', List.getElem?_drop, hdm]; exact hiv
              · rw [List.getElem?_toArray, List.getElem?_take, if_pos hr', List.getElem?_drop, show a.off + i / P.cellsOf e * P.cellsOf e + i % P.cellsOf e = a.off + i by omega]
                simpa using hic
            have l2 := lay_block l1.mem l1.ro (off := a.off) hb hn hlen hv
            refine ⟨_, _, [.slice ⟨M1.next, a.off, 0, a.off + cap * P.cellsOf e⟩ (P.cellsOf e) len cap true], l1.trans l2, row_one ?_ rfl, ?_⟩
            · have := ValRel.slice (m := m1.add M1.next ⟨a.block, a.off + cap * P.cellsOf e, a.off + cap * P.cellsOf e, Nat.le_refl _, true, a.off⟩) ⟨M1.next, a.off, 0, a.off + cap * P.cellsOf e⟩ (P.cellsOf e) len cap true _ cap (Plc.add_at _ _ _) ⟨Nat.le_refl _, Nat.le_refl _⟩ hlc (Nat.le_refl _) (fun _ => rfl) (Nat.le_refl _) (Nat.le_refl _) hmx
              have ha : a = ⟨a.block, a.off, none⟩ := by cases a; simp at hsp; subst hsp; rfl
              rw [ha]; exact this
            · refine .slice (cs := List.replicate a.off .undef ++ vs) ht (by rw [Mem.get_alloc, if_pos rfl]) (by simp [hlen]) (by simpa using hel) (by simp; omega) hcap hmx hsz (fun i d hd => ?_)
              have hd' : ((elems ++ rest).map (·.1))[i]? = some d := by simpa using hd
              rw [List.getElem?_map] at hd'
              cases hq : (elems ++ rest)[i]? with
              | none => rw [hq] at hd'; cases hd'
              | some x =>
                rw [hq] at hd'
                cases hd'
                have hi : i < cap := by
                  have : i < (elems ++ rest).length := by
                    rcases Nat.lt_or_ge i (elems ++ rest).length with h | h
                    · exact h
                    · rw [List.getElem?_eq_none h] at hq; cases hq
                  simp at this; omega
                have hXi : X i = x := by show ((elems ++ rest)[i]?).getD x0 = x; rw [hq]; rfl
                have e5 : ((List.replicate a.off AVal.undef ++ vs).drop (a.off + i * P.cellsOf e)).take (P.cellsOf e) = (vs.drop (i * P.cellsOf e)).take (P.cellsOf e) := by
                  rw [List.drop_append, List.drop_of_length_le (by simp), List.nil_append]; simp
                rw [e5]
                have := (hval i hi).2
                rw [hXi] at this
                exact this.mono l2.sub
      · rename_i fs ht
        simp only [Bool.and_eq_true, beq_iff_eq, List.all_eq_true] at hok
        obtain ⟨xs, k, _, rfl, hcl, hxl, hE⟩ := DataW.trod_struct ht hx
        obtain ⟨m1, M1, vs, l1, hlen, hv, hrd⟩ := lay_fields (cs := cs) (fuel := k) (fin := P.cellsOf t) (by omega) fs.toList 0 (fun f hf => ih f.type (hok.2 f hf)) hok.1 xs (by simpa using hxl) (fun i f hf => hE i f (by simpa using hf)) m M hM hr
        refine ⟨m1, M1, vs, l1, ⟨by simp; omega, fun i v c h1 h2 => hv i v c h1 (by simpa using h2)⟩, .agg ht (by omega) (by simpa using hxl) (fun i f d hf hd => ?_)⟩
        rw [List.getElem?_map] at hd
        cases hq : xs[i]? with
        | none => rw [hq] at hd; cases hd
        | some x =>
          rw [hq] at hd
          cases hd
          simpa using (hrd i f x hf hq).2
      · cases hok

end
end
end Go.VE
