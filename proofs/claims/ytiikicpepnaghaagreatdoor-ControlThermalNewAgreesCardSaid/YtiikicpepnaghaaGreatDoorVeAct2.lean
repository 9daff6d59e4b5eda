/-
  The abstract evaluator: append, copy, delete.
-/
import Derived.Test.YtiikicpepnaghaaGreatDoorVeAct
namespace Go.VE

def Plc.addE (m : Plc) (id e : Nat) (pl : Pl) : Plc := fun i k => if i = id ∧ k = e then some pl else m i k

theorem Plc.addE_at (m : Plc) (id e : Nat) (pl : Pl) : m.addE id e pl id e = some pl := by simp [Plc.addE]

theorem Plc.le_addE {m : Plc} {id e : Nat} (h : m id e = none) (pl : Pl) : m.le (m.addE id e pl) := by
  intro i k q hq
  unfold Plc.addE
  split
  · rename_i hh; obtain ⟨rfl, rfl⟩ := hh; rw [h] at hq; cases hq
  · exact hq

theorem Plc.addE_inv {m : Plc} {id i e k : Nat} {pl q : Pl} (h : m.addE id e pl i k = some q) : (i = id ∧ k = e ∧ q = pl) ∨ m i k = some q := by
  unfold Plc.addE at h
  split at h
  · rename_i hh; obtain ⟨a, b⟩ := hh; exact .inl ⟨a, b, (Option.some.inj h).symm⟩
  · exact .inr h

section
variable {P : Program} {m : Plc} {w : World} {M M' : Mem} {v : AVal}

/-! What is appended -/

/-- The cells that a builtin takes out of its second operand, at any world with this heap. -/
structure News (P : Program) (m : Plc) (w : World) (sz : Nat) (c : Value) (news : List AVal) (cs : Array Value) (n : Nat) : Prop where
  len : (Builtin.lenOf c).run P w = .ok n w
  row : RowRel m news cs
  size : news.length = n * sz
  take : ∀ (k : Nat) (w' : World), k ≤ n → w'.heap = w.heap → (Builtin.firstCells sz k c).run P w' = .ok (cs.extract 0 (k * sz)) w'

theorem cell?_heap {w w' : World} (h : w'.heap = w.heap) (a : Addr) : w'.cell? a = w.cell? a := by simp [World.cell?, h]

theorem newsOf_rel (hM : MemRel m M w) {sz : Nat} {y : AVal} {news : List AVal} (h : newsOf M sz y = some news) {c : Value} (hc : ValRel m y c) : ∃ cs n, News P m w sz c news cs n := by
  unfold newsOf at h
  split at h
  · cases h
    rw [hc.nilSlice_inv]
    refine ⟨#[], 0, rfl, RowRel.nil m, by simp, fun k w' hk _ => ?_⟩
    have : k = 0 := by omega
    subst this
    simp [Builtin.firstCells]
  · cases h
    obtain ⟨a, cc, rfl⟩ := hc.emptySl_inv
    refine ⟨#[], 0, rfl, RowRel.nil m, by simp, fun k w' hk _ => ?_⟩
    have : k = 0 := by omega
    subst this
    simp only [Builtin.firstCells, Nat.zero_mul]
    rfl
  · rename_i a sz' len cap ex
    split at h
    · rename_i hsz
      have hsz := Nat.eq_of_beq_eq_true hsz
      subst hsz
      obtain ⟨pl, cc, g1, g2, g3, g4, g5, g6, g7, g8, rfl⟩ := hc.slice_inv
      obtain ⟨hlen, cs, hcl, hcell, hrow⟩ := loadCells_rel hM h g1 g2
      refine ⟨cs.toArray, len, rfl, hrow, hlen, fun k w' hk hw' => ?_⟩
      have hle : k * sz ≤ len * sz := Nat.mul_le_mul_right _ hk
      have hrun := run_loadCells_at (P := P) w' pl.blk a.off (cs.take (k * sz)) (fun j c hj => by
        rw [cell?_heap hw']
        rw [List.getElem?_take] at hj
        split at hj
        · exact hcell j c hj
        · cases hj)
      have hl : (cs.take (k * sz)).length = k * sz := by simp; omega
      rw [hl] at hrun
      simp only [Builtin.firstCells]
      rw [hrun]
      congr 1
      simp
    · cases h
  · rename_i s
    split at h
    · rename_i hsz
      have hsz := Nat.eq_of_beq_eq_true hsz
      subst hsz
      cases h
      rw [hc.str_inv]
      have hs : (⟨s.toArray⟩ : ByteArray).size = s.length := by simp [ByteArray.size]
      refine ⟨s.toArray.map fun b => .int .u8 b.toNat, s.length, ?_, ⟨by simp, fun i u d hu hd => ?_⟩, by simp, fun k w' hk _ => ?_⟩
      · simp only [Builtin.lenOf, hs]; rfl
      · rw [List.getElem?_map] at hu
        rw [Array.getElem?_map, List.getElem?_toArray] at hd
        cases hb : s[i]? with
        | none => rw [hb] at hu; cases hu
        | some b => rw [hb] at hu hd; cases hu; cases hd; exact ⟨.int _ _, rfl⟩
      · simp only [Builtin.firstCells]
        have hx : ((⟨s.toArray⟩ : ByteArray).extract 0 k).data = (s.take k).toArray := by
          rw [ByteArray.data_extract]; simp [List.extract_eq_take_drop]
        rw [hx]
        show Result.ok _ w' = _
        congr 1
        simp [List.map_take, List.extract_eq_take_drop]
    · cases h
  · cases h

/-- The run of append, in whichever of its ways. -/
theorem run_append_in {t u ty e : TypeId} {i : TypeInfo} (ht : P.underlying t = some (.slice e)) (hi : P.info? e = some i) {d : TypeDesc} (hu : P.underlying u = some d) (hd : ∀ k, d ≠ .int k)
    {base : Option Addr} {sLen sCap n : Nat} {c : Value} (hlen : (Builtin.lenOf c).run P w = .ok n w) {cs : Array Value} (hnew : (Builtin.firstCells i.size n c).run P w = .ok cs w) (hroom : sLen + n ≤ sCap)
    {w' : World} (hst : ∀ a, base = some a → (Go.storeCells (a.add (sLen * i.size)) cs.toList).run P w = .ok () w') (hw : base = none → w' = w) :
    (Builtin.append_ #[t, u] ty #[.slice base sLen sCap, c]).run P w = .ok (.slice base (sLen + n) sCap) w' := by
  cases base with
  | none =>
    rw [hw rfl]
    simp [Builtin.append_, run_underlying ht, run_underlying hu, Go.sizeOf, Go.typeInfo, hi, hlen, hroom, hnew]
  | some a =>
    simp [Builtin.append_, run_underlying ht, run_underlying hu, Go.sizeOf, Go.typeInfo, hi, hlen, hroom, hnew, hst a rfl]

theorem run_append_out {t u ty e : TypeId} {i : TypeInfo} {z : Value} (ht : P.underlying t = some (.slice e)) (hi : P.info? e = some i) (hzv : i.zero = some z) {d : TypeDesc} (hu : P.underlying u = some d) (hd : ∀ k, d ≠ .int k)
    {base : Option Addr} {sLen sCap n : Nat} {c : Value} (hlen : (Builtin.lenOf c).run P w = .ok n w) {cs os : Array Value} (hnew : (Builtin.firstCells i.size n c).run P w.drew = .ok cs w.drew)
    (hold : (Builtin.firstCells i.size sLen (.slice base sLen sCap)).run P w.drew = .ok os w.drew) (hroom : ¬ (sLen + n ≤ sCap)) (h63 : sLen + n ≤ 2 ^ 62) (hfit : Builtin.nextslicecap (sLen + n) sCap * i.bytes ≤ 281474976710656) :
    (Builtin.append_ #[t, u] ty #[.slice base sLen sCap, c]).run P w =
      .ok (.slice (some ⟨w.heap.size, 0, none⟩) (sLen + n) (grownCap w (sLen + n) sCap e)) (w.drew.alloc (.cells (os ++ cs ++ Builtin.zeroCells z.cells (grownCap w (sLen + n) sCap e - (sLen + n))) e)) := by
  have h63' : ¬ (9223372036854775807 < ((sLen : Int) + (n : Int))) := by omega
  have h48' : ¬ (281474976710656 < Builtin.nextslicecap (sLen + n) sCap * i.bytes) := by omega
  simp [Builtin.append_, run_underlying ht, run_underlying hu, Go.sizeOf, Go.typeInfo, Go.zeroValue, hi, hzv, hlen, hroom, h63', h48', Question.forced, hnew, hold, Go.newRow, grownCap]

theorem fits_inv {et : TypeId} {n : Nat} (h : fits P et n = true) : 0 < bytes P et ∧ (2 * n + 2000) * bytes P et ≤ 140737488355328 := by
  unfold fits at h
  simp only [Bool.and_eq_true] at h
  exact ⟨nat_lt_of_blt h.1, Nat.le_of_ble_eq_true h.2⟩

theorem grown_fits {need old b : Nat} (h : old < need) (hb : (2 * need + 2000) * b ≤ 140737488355328) : Builtin.nextslicecap need old * b ≤ 281474976710656 :=
  growslice_fits h (by
    have : need * b ≤ (2 * need + 2000) * b := Nat.mul_le_mul_right _ (by omega)
    omega)

theorem drew_heap (w : World) : w.drew.heap = w.heap := rfl

/-- A block that append has laid. -/
theorem appendNew_sound (hM : MemRel m M w) {sz n : Nat} {cs : List AVal} (h : appendNew M sz n cs = .val v M') {ccs rest : Array Value} (hrow : RowRel m cs ccs) (hl : cs.length = n * sz) {cap : Nat} (hcap : n ≤ cap) (hmax : cap ≤ maxLen)
    (hrest : rest.size = (cap - n) * sz) (el : TypeId) :
    ∃ m', ValRel m' v (.slice (some ⟨w.heap.size, 0, none⟩) n cap) ∧ MemRel m' M' (w.drew.alloc (.cells (ccs ++ rest) el)) ∧ Fr m M w m' M' (w.drew.alloc (.cells (ccs ++ rest) el)) := by
  cases h
  have hs : (ccs ++ rest).size = cap * sz := by
    rw [Array.size_append, hrest, ← hrow.1, hl, ← Nat.add_mul]; congr 1; omega
  have hle : cs.length ≤ (ccs ++ rest).size := by rw [hs, hl]; exact Nat.mul_le_mul_right _ hcap
  let pl : Pl := ⟨w.heap.size, cs.length, (ccs ++ rest).size, hle, false, 0⟩
  refine ⟨m.add M.next pl, ?_, ?_, ?_⟩
  · exact .slice ⟨M.next, 0, 0, cs.length⟩ sz n n false pl cap (Plc.add_at _ _ _) ⟨Nat.le_refl _, Nat.le_refl 0⟩ (Nat.le_refl _) hcap (fun h => by cases h) (by show 0 + n * sz ≤ cs.length; omega) (by show 0 + cap * sz ≤ (ccs ++ rest).size; omega) hmax
  · refine hM.alloc (pl := pl) rfl (by rfl) ?_
    refine BlockRel.newCells (w := w) (ccs := ccs ++ rest) (el := el) (lo := 0) (hi := 0) (Plc.le_add hM.none_next pl) (fun e q hq => ?_) rfl (.inr (Nat.le_refl 0)) (fun i u c hu hc => ?_)
    · obtain ⟨h1, rfl⟩ := Plc.add_only hM e q hq
      exact ⟨h1, rfl, rfl, rfl, rfl⟩
    · have hi : i < cs.length := by
        rcases Nat.lt_or_ge i cs.length with h | h
        · exact h
        · simp [List.getElem?_eq_none h] at hu
      rw [Array.getElem?_append_left (hrow.1 ▸ hi)] at hc
      exact hrow.2 i u c hu hc
  · exact Fr.alloc hM (by rfl) rfl rfl rfl rfl

/-- The tip of a block grows: the model writes behind it or lays it anew. -/
theorem MemRel.tip (hM : MemRel m M w) {id ep lo : Nat} {cs news : List AVal} (hg : M.get id = some (.cells cs ep lo)) {pl : Pl} (hp : m id ep = some pl) {w' : World} {pl' : Pl} (hro : pl'.ro = false) (hext : pl'.ext = cs.length + news.length)
    (hcells : CellsRel (m.addE id (ep + 1) pl') w' (cs ++ news) pl') (hsz : w.heap.size ≤ w'.heap.size) (hkeep : ∀ β, β < w.heap.size → β ≠ pl.blk → w'.heap[β]? = w.heap[β]?)
    (hself : ∀ e q, lo ≤ e → m id e = some q → CellsRel m w cs q → CellsRel m w' cs q)
    (hblk : pl'.blk = pl.blk ∨ (pl'.blk = w.heap.size ∧ w.heap.size < w'.heap.size)) (ho : w'.os = w.os) (ht : w'.tape = w.tape) (hout : w'.output = w.output) :
    MemRel (m.addE id (ep + 1) pl') (M.set id (.cells (cs ++ news) (ep + 1) lo)) w' ∧ Fr m M w (m.addE id (ep + 1) pl') (M.set id (.cells (cs ++ news) (ep + 1) lo)) w' := by
  obtain ⟨hid, hlo, hb⟩ := hM.block _ _ hg
  have hnone : m id (ep + 1) = none := by
    cases hq : m id (ep + 1) with
    | none => rfl
    | some q => have := (hb (ep + 1) q (by omega) hq).1; omega
  have hpro : pl.ro = false := ((hb ep pl hlo hp).2.1 rfl).2
  have hle := Plc.le_addE hnone pl'
  have hpd := hM.dom _ _ _ hp
  constructor
  · refine ⟨fun i e q hq => ?_, fun i e i' e' q q' hq hq' hqro heq => ?_, fun i b hb' => ?_⟩
    · rcases Plc.addE_inv hq with ⟨rfl, rfl, rfl⟩ | hq
      · refine ⟨hid, ?_⟩
        rcases hblk with h | h <;> omega
      · have := hM.dom i e q hq; exact ⟨this.1, by omega⟩
    · rcases Plc.addE_inv hq with ⟨rfl, rfl, rfl⟩ | hq1
      · rcases Plc.addE_inv hq' with ⟨rfl, rfl, rfl⟩ | hq2
        · rfl
        · rcases hblk with h | h
          · exact hM.apart i ep i' e' pl q' hp hq2 hpro (h.symm.trans heq)
          · have := (hM.dom i' e' q' hq2).2; omega
      · rcases Plc.addE_inv hq' with ⟨rfl, rfl, rfl⟩ | hq2
        · rcases hblk with h | h
          · exact (hM.apart i' ep i e pl q hp hq1 hpro (heq.trans h).symm).symm
          · have := (hM.dom i e q hq1).2; omega
        · exact hM.apart i e i' e' q q' hq1 hq2 hqro heq
    · rw [Mem.get_set] at hb'
      split at hb'
      · rename_i hi; subst hi; cases hb'
        refine ⟨hid, by omega, fun e q he hq => ?_⟩
        rcases Plc.addE_inv hq with ⟨_, rfl, rfl⟩ | hq1
        · exact ⟨Nat.le_refl _, fun _ => ⟨by rw [hext]; simp, hro⟩, hcells⟩
        · obtain ⟨x, y, z⟩ := hb e q he hq1
          refine ⟨by omega, fun h => by omega, ?_⟩
          have hz := (hself e q he hq1 z).mono hle rfl
          obtain ⟨z1, ccs, el, flo, fhi, z2, z3, z4, z5⟩ := hz
          refine ⟨by simp; omega, ccs, el, flo, fhi, z2, z3, z4, fun i u c hf hi hu hc => z5 i u c hf hi ?_ hc⟩
          rwa [List.getElem?_append_left (by omega)] at hu
      · rename_i hi
        refine ⟨(hM.block i b hb').1, ?_⟩
        have hbl := (hM.block i b hb').2
        have hne : ∀ e q, m i e = some q → w'.heap[q.blk]? = w.heap[q.blk]? := fun e q hq => hkeep _ (hM.dom i e q hq).2 (fun hb => hi (hM.apart id ep i e pl q hp hq hpro hb.symm).symm)
        cases b with
        | cells cs2 ep2 lo2 =>
          refine ⟨hbl.1, fun e q he hq => ?_⟩
          rcases Plc.addE_inv hq with ⟨h1, _, _⟩ | hq1
          · exact absurd h1 hi
          · obtain ⟨x, y, z⟩ := hbl.2 e q he hq1
            exact ⟨x, y, z.mono hle (hne e q hq1)⟩
        | map es =>
          intro q hq
          rcases Plc.addE_inv hq with ⟨h1, _, _⟩ | hq1
          · exact absurd h1 hi
          · obtain ⟨r, en, cl, x, y⟩ := hbl q hq1
            exact ⟨r, en, cl, (hne 0 q hq1).trans x, y.mono hle⟩
  · refine ⟨hle, fun i hi hn => ⟨fun e => ?_, ?_⟩, Nat.le_refl _, hsz, fun β hβ hn => hkeep β hβ (fun hb => hn ⟨id, _, pl, hg, hp, hb.symm⟩), fun β hwr => ?_, ho, ht, hout⟩
    · cases hq : m.addE id (ep + 1) pl' i e with
      | none => rfl
      | some q =>
        rcases Plc.addE_inv hq with ⟨rfl, _, _⟩ | hq1
        · rw [hn] at hp; cases hp
        · rw [hn] at hq1; cases hq1
    · rw [Mem.get_set, if_neg (fun hi => by subst hi; rw [hn] at hp; cases hp)]
    · obtain ⟨i, c, q, h1, h2, h3⟩ := hwr
      rw [Mem.get_set] at h1
      split at h1
      · rename_i hi
        subst hi; cases h1
        rcases Plc.addE_inv h2 with ⟨_, _, rfl⟩ | hq1
        · rcases hblk with h | h
          · exact .inl ⟨i, _, pl, hg, hp, h.symm.trans h3⟩
          · right; omega
        · have := (hb (ep + 1) q (by omega) hq1).1; omega
      · rename_i hi
        rcases Plc.addE_inv h2 with ⟨h, _, _⟩ | hq1
        · exact absurd h hi
        · exact .inl ⟨i, c, q, h1, hq1, h3⟩

theorem size_of_info {t : TypeId} {i : TypeInfo} (h : P.info? t = some i) : bytes P t = i.bytes := by simp [bytes, h]

/-- A run that hands back a value and leaves the memories related. -/
def Gives (P : Program) (m : Plc) (M : Mem) (w : World) (s : Sem Value) (v : AVal) (M' : Mem) : Prop :=
  ∃ m' c w', s.run P w = .ok c w' ∧ ValRel m' v c ∧ MemRel m' M' w' ∧ Fr m M w m' M' w'

theorem append_sound (hM : MemRel m M w) {t u ty et : TypeId} (ht : P.underlying t = some (.slice et)) {d : TypeDesc} (hu : P.underlying u = some d) (hd : ∀ k, d ≠ .int k)
    {x y : AVal} (h : append P M et x y = .val v M') {cx cy : Value} (hx : ValRel m x cx) (hy : ValRel m y cy) : Gives P m M w (Builtin.append_ #[t, u] ty #[cx, cy]) v M' := by
  unfold append at h
  cases hz : zeroCells P et with
  | none => rw [hz] at h; cases h
  | some q =>
    obtain ⟨sz, z⟩ := q
    rw [hz] at h
    simp only at h
    obtain ⟨i, zv, hi, hsz, hzv, hzz, hzl, hpos, hzrow⟩ := zeroCells_inv hz
    have hby := size_of_info hi
    have hzs : zv.cells.size = sz := by rw [← (hzrow m).1, hzl]
    cases hn : newsOf M sz y with
    | none => rw [hn] at h; cases h
    | some news =>
      rw [hn] at h
      obtain ⟨cs, n, hnews⟩ := newsOf_rel (P := P) hM hn hy
      unfold appendAll at h
      simp only at h
      split at h
      · have hdiv : news.length / sz = n := by rw [hnews.size]; exact Nat.mul_div_cancel _ hpos
        rw [hdiv] at h
        have hall : (Builtin.firstCells i.size n cy).run P w = .ok cs w := by
          have := hnews.take n w (Nat.le_refl _) rfl
          rw [hsz, this]
          have : cs.extract 0 (n * sz) = cs := by rw [← hnews.size, hnews.row.1]; simp
          rw [this]
        have hall' : (Builtin.firstCells i.size n cy).run P w.drew = .ok cs w.drew := by
          have := hnews.take n w.drew (Nat.le_refl _) rfl
          rw [hsz, this]
          have : cs.extract 0 (n * sz) = cs := by rw [← hnews.size, hnews.row.1]; simp
          rw [this]
        unfold appendTo at h
        split at h
        · rw [hx.nilSlice_inv]
          split at h
          · cases h
            have hn0 : n = 0 := by
              have := hnews.size
              simp only [List.length_nil] at this
              rcases Nat.eq_zero_or_pos n with h | h
              · exact h
              · have := Nat.mul_pos h hpos; omega
            subst hn0
            refine ⟨m, .slice none 0 0, w, ?_, .nilSlice, hM, Fr.refl m M w⟩
            have := run_append_in (ty := ty) ht hi hu hd hnews.len hall (base := none) (sLen := 0) (sCap := 0) (Nat.le_refl _) (w' := w) (fun a h => by cases h) (fun _ => rfl)
            exact this
          · rename_i hne
            split at h
            · rename_i hf
              obtain ⟨f1, f2⟩ := fits_inv hf
              rw [hby] at f1 f2
              have hnpos : 0 < n := by
                rcases Nat.eq_zero_or_pos n with h | h
                · subst h
                  have : news = [] := List.eq_nil_of_length_eq_zero (by rw [hnews.size]; simp)
                  exact absurd this (fun e => hne e)
                · exact h
              have h62 : n ≤ 2 ^ 47 := by
                have : 2 * n + 2000 ≤ (2 * n + 2000) * i.bytes := Nat.le_mul_of_pos_right _ f1
                omega
              have hge := grownCap_ge w (0 + n) 0 et
              have hmx := grownCap_le_maxLen w (0 + n) 0 et (by unfold maxLen; omega)
              have hrun := run_append_out (ty := ty) ht hi hzv hu hd hnews.len hall' (base := none) (sLen := 0) (sCap := 0) (os := #[]) (by simp [Builtin.firstCells]) (by omega) (by omega) (grown_fits (by omega) (by simpa using f2))
              simp only [Nat.zero_add, Array.empty_append] at hrun hge hmx
              obtain ⟨m', r1, r2, r3⟩ := appendNew_sound hM h hnews.row hnews.size hge hmx (rest := Builtin.zeroCells zv.cells (grownCap w n 0 et - n)) (by rw [size_zeroCells, hzs]) et
              exact ⟨m', _, _, hrun, r1, r2, r3⟩
            · cases h
        · rename_i a sz' len cap ex
          split at h
          · rename_i hf
            simp only [Bool.and_eq_true] at hf
            obtain ⟨f1, f2⟩ := fits_inv hf.1
            rw [hby] at f1 f2
            have hsz' := Nat.eq_of_beq_eq_true hf.2
            subst hsz'
            obtain ⟨pl, cc, g1, g2, g3, g4, g5, g6, g7, g8, rfl⟩ := hx.slice_inv
            have h62 : len + n ≤ 2 ^ 47 := by
              have : 2 * (len + n) + 2000 ≤ (2 * (len + n) + 2000) * i.bytes := Nat.le_mul_of_pos_right _ f1
              omega
            have hadd : (⟨pl.blk, a.off, none⟩ : Addr).add (len * sz') = ⟨pl.blk, a.off + len * sz', none⟩ := by unfold Addr.add; split <;> simp_all
            split at h
            · rename_i hroom
              have hroom := Nat.le_of_ble_eq_true hroom
              unfold appendIn at h
              split at h
              · cases h
                have hn0 : n = 0 := by
                  have := hnews.size
                  simp only [List.length_nil] at this
                  rcases Nat.eq_zero_or_pos n with h | h
                  · exact h
                  · have := Nat.mul_pos h hpos; omega
                subst hn0
                have hcs : cs = #[] := Array.eq_empty_of_size_eq_zero (by rw [← hnews.row.1]; rfl)
                subst hcs
                refine ⟨m, _, w, ?_, .slice a sz' len cap ex pl cc g1 g2 g3 g4 g5 g6 g7 g8, hM, Fr.refl m M w⟩
                exact run_append_in (ty := ty) ht hi hu hd hnews.len hall (base := some ⟨pl.blk, a.off, none⟩) (sLen := len) (sCap := cc) (by omega) (w' := w) (fun a _ => rfl) (fun h => by cases h)
              · split at h
                · rename_i M1 hs
                  cases h
                  obtain ⟨w', hr, h1, h2⟩ := storeCells_rel (P := P) hM hs (pl := pl) g1 (cs := cs.toList) (by simpa using hnews.row) ⟨g2.1, Nat.le_trans g2.2 (Nat.le_add_right _ _)⟩
                  refine ⟨m, _, w', ?_, .slice a sz' (len + n) cap ex pl cc g1 g2 hroom g4 g5 g6 g7 g8, h1, h2⟩
                  exact run_append_in (ty := ty) ht hi hu hd hnews.len hall (base := some ⟨pl.blk, a.off, none⟩) (sLen := len) (sCap := cc) (by omega) (w' := w')
                    (fun b hb => by cases hb; rw [hsz, hadd]; exact hr) (fun h => by cases h)
                · cases h
            · rename_i hroom
              have hroom : cap < len + n := by
                rcases Nat.lt_or_ge cap (len + n) with h | h
                · exact h
                · rw [Nat.ble_eq_true_of_le h] at hroom; cases hroom
              have hgrow : ∀ (old : List AVal) (M2 : Mem), loadCells M a (len * sz') = some old → ¬ (len + n ≤ cc) → ∃ os : Array Value, RowRel m old os ∧ old.length = len * sz' ∧
                  (Builtin.append_ #[t, u] ty #[.slice (some ⟨pl.blk, a.off, none⟩) len cc, cy]).run P w =
                    .ok (.slice (some ⟨w.heap.size, 0, none⟩) (len + n) (grownCap w (len + n) cc et)) (w.drew.alloc (.cells (os ++ cs ++ Builtin.zeroCells zv.cells (grownCap w (len + n) cc et - (len + n))) et)) := by
                intro old _ hold hcc
                obtain ⟨hlen, ol, hol, hcell, hrow⟩ := loadCells_rel hM hold g1 g2
                refine ⟨ol.toArray, hrow, hlen, ?_⟩
                refine run_append_out (ty := ty) ht hi hzv hu hd hnews.len hall' (base := some ⟨pl.blk, a.off, none⟩) (os := ol.toArray) ?_ hcc (by omega) (grown_fits (by omega) f2)
                have hrun := run_loadCells_at (P := P) w.drew pl.blk a.off ol (fun j c hj => by rw [cell?_heap (drew_heap w)]; exact hcell j c hj)
                rw [hol] at hrun
                simp only [Builtin.firstCells, hsz]
                exact hrun
              have hge := grownCap_ge w (len + n) cc et
              have hmx := grownCap_le_maxLen w (len + n) cc et (by unfold maxLen; omega)
              split at h
              · have hcc : cc = cap := g5 rfl
                cases hold : loadCells M a (len * sz') with
                | none => rw [hold] at h; cases h
                | some old =>
                  rw [hold] at h
                  obtain ⟨os, hrow, hlen, hrun⟩ := hgrow old M hold (by omega)
                  obtain ⟨m', r1, r2, r3⟩ := appendNew_sound hM h (hrow.append hnews.row) (by rw [List.length_append, hlen, hnews.size, Nat.add_mul]) hge hmx (rest := Builtin.zeroCells zv.cells (grownCap w (len + n) cc et - (len + n))) (by rw [size_zeroCells, hzs]) et
                  exact ⟨m', _, _, hrun, r1, r2, r3⟩
              · unfold appendTip at h
                simp only [lenL_eq, appL_eq] at h
                split at h
                · rename_i acs ep lo hg
                  split at h
                  · rename_i e1 e2 e3
                    cases h
                    have e1 := Nat.eq_of_beq_eq_true e1
                    have e2 := Nat.eq_of_beq_eq_true e2
                    have e3 := Nat.eq_of_beq_eq_true e3
                    subst e1
                    obtain ⟨hid, hlo, hb⟩ := hM.block _ _ hg
                    obtain ⟨_, hxe, hcr⟩ := hb a.ep pl hlo g1
                    obtain ⟨hxe, hro⟩ := hxe rfl
                    obtain ⟨hx1, ccs, el, flo, fhi, hw, htot, hfr, hrel⟩ := hcr
                    have hnl : news.length = cs.size := hnews.row.1
                    have hns := hnews.size
                    by_cases hcc : len + n ≤ cc
                    · -- in place
                      have hfit : acs.length + news.length ≤ pl.tot := by
                        rw [← e3, hns, ← Nat.add_mul]
                        have : (len + n) * sz' ≤ cc * sz' := Nat.mul_le_mul_right _ hcc
                        omega
                      let pl' : Pl := ⟨pl.blk, acs.length + news.length, pl.tot, hfit, false, 0⟩
                      obtain ⟨ccs', s1, s2, s3, s4, s5, s6, s7, s8⟩ := setCells_heap pl.blk cs.toList (acs.length) w ccs el (flo, fhi) hw
                      have hstore := run_storeCells_cells (P := P) pl.blk acs.length cs.toList 0 w
                        (fun j hj => by simp at hj; simp [World.cell?, hw]; omega)
                        (fun j hj => by
                          simp at hj
                          have := hfr hro (acs.length + 0 + j) (by omega)
                          simp [World.frozen?, hw]; omega)
                        (fun c hc => by
                          obtain ⟨k, hk, rfl⟩ := List.getElem_of_mem hc
                          exact hnews.row.one (i := k) (by simp at hk; simp [hk]))
                      simp only [Nat.add_zero] at hstore
                      have hcells : CellsRel (m.addE a.id (a.ep + 1) pl') (w.setCells pl.blk acs.length cs.toList) (acs ++ news) pl' := by
                        refine ⟨by simp [pl'], ccs', el, flo, fhi, s1, by rw [s2]; exact htot, fun _ => hfr hro, fun j v c _ hj hv hc => ?_⟩
                        rw [s3 j] at hc
                        simp only [Array.length_toList] at hc
                        have hmle : m.le (m.addE a.id (a.ep + 1) pl') := Plc.le_addE (by
                          cases hq : m a.id (a.ep + 1) with
                          | none => rfl
                          | some q => have := (hb (a.ep + 1) q (by omega) hq).1; omega) pl'
                        by_cases hj2 : j < acs.length
                        · rw [List.getElem?_append_left hj2] at hv
                          rw [if_neg (by omega)] at hc
                          obtain ⟨q1, q2⟩ := hrel j v c (by have := g2.2; rw [e2] at this; omega) (by omega) hv hc
                          exact ⟨q1.mono hmle, q2⟩
                        · rw [List.getElem?_append_right (by omega)] at hv
                          have hj' : j < acs.length + news.length := hj
                          rw [if_pos (by omega), Array.getElem?_toList] at hc
                          obtain ⟨q1, q2⟩ := hnews.row.2 _ v c hv hc
                          exact ⟨q1.mono hmle, q2⟩
                      obtain ⟨r1, r2⟩ := hM.tip (w' := w.setCells pl.blk acs.length cs.toList) hg g1 (pl' := pl') rfl rfl hcells (by rw [s5]; exact Nat.le_refl _) (fun β _ hβ => s4 β hβ)
                        (fun e q he hq hc => by
                          by_cases hqb : q.blk = pl.blk
                          · obtain ⟨c1, ccs2, el2, lo2, hi2, c2, c3, c4, c5⟩ := hc
                            rw [hqb, hw] at c2
                            cases c2
                            refine ⟨c1, ccs', el, flo, fhi, by rw [hqb]; exact s1, by rw [s2]; exact c3, c4, fun j v c hf hj hv hcj => c5 j v c hf hj hv ?_⟩
                            rw [s3 j, if_neg (by have := (hb e q he hq).2.2.1; omega)] at hcj
                            exact hcj
                          · exact hc.mono (Plc.le_refl m) (s4 _ hqb)) (.inl rfl) s6 s7 s8
                      refine ⟨_, _, _, run_append_in (ty := ty) ht hi hu hd hnews.len hall (base := some ⟨pl.blk, a.off, none⟩) (sLen := len) (sCap := cc) hcc (w' := w.setCells pl.blk acs.length cs.toList)
                        (fun b hb => by cases hb; rw [hsz, hadd, e2, Nat.zero_add, e3]; exact hstore) (fun h => by cases h), ?_, r1, r2⟩
                      rw [e2]
                      exact .slice ⟨a.id, 0, a.ep + 1, acs.length + news.length⟩ sz' (len + n) (len + n) false pl' cc (Plc.addE_at _ _ _ _) ⟨Nat.le_refl _, Nat.le_refl 0⟩ (Nat.le_refl _) hcc (fun h => by cases h)
                        (by show 0 + (len + n) * sz' ≤ acs.length + news.length; rw [Nat.add_mul]; omega) (by show 0 + cc * sz' ≤ pl.tot; omega) g8
                    · -- laid anew
                      have hold : loadCells M a (len * sz') = some acs := by
                        unfold loadCells
                        rw [hg]
                        have b1 : Nat.ble lo a.ep = true := Nat.ble_eq_true_of_le hlo
                        have b2 : Nat.ble (a.off + len * sz') a.lim = true := Nat.ble_eq_true_of_le (by
                          have : len * sz' ≤ cap * sz' := Nat.mul_le_mul_right _ g3
                          omega)
                        simp only [b1, b2]
                        rw [e2, e3, takeL_eq, dropL_eq]
                        simp
                      obtain ⟨os, hrow, hlen, hrun⟩ := hgrow acs M hold hcc
                      have hrow2 := hrow.append hnews.row
                      let W := w.drew.alloc (.cells (os ++ cs ++ Builtin.zeroCells zv.cells (grownCap w (len + n) cc et - (len + n))) et)
                      have hs : (os ++ cs ++ Builtin.zeroCells zv.cells (grownCap w (len + n) cc et - (len + n))).size = grownCap w (len + n) cc et * sz' := by
                        rw [Array.size_append, size_zeroCells, hzs, ← hrow2.1, List.length_append, hlen, hns, ← Nat.add_mul, ← Nat.add_mul]; congr 1; omega
                      have hfit : acs.length + news.length ≤ (os ++ cs ++ Builtin.zeroCells zv.cells (grownCap w (len + n) cc et - (len + n))).size := by
                        rw [hs, ← e3, hns, ← Nat.add_mul]; exact Nat.mul_le_mul_right _ hge
                      let pl' : Pl := ⟨w.heap.size, acs.length + news.length, _, hfit, false, 0⟩
                      have hmle : m.le (m.addE a.id (a.ep + 1) pl') := Plc.le_addE (by
                          cases hq : m a.id (a.ep + 1) with
                          | none => rfl
                          | some q => have := (hb (a.ep + 1) q (by omega) hq).1; omega) pl'
                      have hW : W.heap = w.heap.push (.cells (os ++ cs ++ Builtin.zeroCells zv.cells (grownCap w (len + n) cc et - (len + n))) et (0, 0)) := rfl
                      have hcells : CellsRel (m.addE a.id (a.ep + 1) pl') W (acs ++ news) pl' := by
                        refine ⟨by simp [pl'], _, et, 0, 0, by rw [hW]; simp [pl'], Nat.le_refl _, fun _ i _ => by omega, fun j v c _ hj hv hc => ?_⟩
                        have hj' : j < (os ++ cs).size := by rw [← hrow2.1]; simpa [pl'] using hj
                        rw [Array.getElem?_append_left hj'] at hc
                        obtain ⟨q1, q2⟩ := hrow2.2 j v c hv hc
                        exact ⟨q1.mono hmle, q2⟩
                      have hkeep : ∀ β, β < w.heap.size → W.heap[β]? = w.heap[β]? := fun β hβ => by rw [hW, Array.getElem?_push]; simp; omega
                      obtain ⟨r1, r2⟩ := hM.tip (w' := W) hg g1 (pl' := pl') rfl rfl hcells (by rw [hW]; simp) (fun β hβ _ => hkeep β hβ)
                        (fun e q he hq hc => hc.mono (Plc.le_refl m) (hkeep _ (hM.dom _ _ _ hq).2)) (.inr ⟨rfl, by rw [hW]; simp⟩) rfl rfl rfl
                      refine ⟨_, _, _, hrun, ?_, r1, r2⟩
                      exact .slice ⟨a.id, 0, a.ep + 1, acs.length + news.length⟩ sz' (len + n) (len + n) false pl' _ (Plc.addE_at _ _ _ _) ⟨Nat.le_refl _, Nat.le_refl 0⟩ (Nat.le_refl _) hge (fun h => by cases h)
                        (by show 0 + (len + n) * sz' ≤ acs.length + news.length; rw [Nat.add_mul]; omega) (by have hT : pl'.tot = grownCap w (len + n) cc et * sz' := hs; show 0 + grownCap w (len + n) cc et * sz' ≤ pl'.tot; omega) hmx
                  · cases h
                · cases h
          · cases h
        · cases h
      · cases h

end
end Go.VE
