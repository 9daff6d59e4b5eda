/-
  The abstract evaluator: operations that lay a new block.
-/
import Derived.Test.YtiikicpepnaghaaGreatDoorVeOps3
import Derived.Laws.MakeOwn
namespace Go.VE

/-- An operation that lays one block: its handle, the block, and that the model does the same. -/
structure Lays (P : Program) (e : Env) (o : Oper) (hd : Nat → AVal) (b : ABlock) : Prop where
  ev : ∀ M, evOp P e M o = .val (hd M.next) (M.alloc b)
  run : ∀ m w ρ, OpsRel m e ρ o → ∃ cv obj w' pl, (execOp ρ o).run P w = .ok (.value cv) w' ∧ w'.heap = w.heap.push obj ∧ w'.os = w.os ∧ w'.tape = w.tape ∧ w'.output = w.output ∧ pl.blk = w.heap.size ∧
    ∀ id m', m.le m' → (∀ e q, m' id e = some q ↔ e = 0 ∧ q = pl) → ValRel m' (hd id) cv ∧ BlockRel m' w' id b
  lo : ∀ cs ep lo, b = .cells cs ep lo → lo ≤ ep := by first | (intro _ _ _ h; cases h; done) | (intro _ _ _ h; cases h; exact Nat.le_refl _)

section
variable {P : Program} {e : Env} {o : Oper}

theorem repeat_length (z : List AVal) : ∀ n, (repeatCells z n).length = n * z.length
  | 0 => by simp [repeatCells]
  | n + 1 => by simp [repeatCells, repeat_length z n, Nat.add_mul]; omega

theorem repeat_get (z : List AVal) (hz : 0 < z.length) : ∀ (n i : Nat), i < n * z.length → (repeatCells z n)[i]? = z[i % z.length]?
  | 0, i, h => by simp at h
  | n + 1, i, h => by
    simp only [repeatCells]
    by_cases hi : i < z.length
    · rw [List.getElem?_append_left hi, Nat.mod_eq_of_lt hi]
    · rw [List.getElem?_append_right (by omega), repeat_get z hz n (i - z.length) (by rw [Nat.add_mul] at h; omega)]
      congr 1
      conv => rhs; rw [show i = (i - z.length) + z.length by omega]
      rw [Nat.add_mod_right]

theorem RowRel.repeat {m : Plc} {z : List AVal} {c : Array Value} (h : RowRel m z c) (hz : 0 < z.length) (n k : Nat) (hk : k = n * z.length) : RowRel m (repeatCells z n) (madeCells c k) := by
  subst hk
  refine ⟨by rw [repeat_length, size_madeCells], fun i v d hv hd => ?_⟩
  have hi : i < n * z.length := by
    rcases Nat.lt_or_ge i (n * z.length) with h | h
    · exact h
    · rw [List.getElem?_eq_none (by rw [repeat_length]; exact h)] at hv; cases hv
  rw [repeat_get z hz n i hi] at hv
  have hs := h.1
  have hmod : i % c.size < c.size := Nat.mod_lt _ (by omega)
  have : d = c[i % c.size] := by
    simp only [madeCells, Array.getElem?_map] at hd
    rw [Array.getElem?_range, if_pos hi] at hd
    simp only [Option.map_some, Option.some.injEq] at hd
    rw [← hd]
    simp [hmod]
  subst this
  exact h.2 _ v _ hv (by rw [hs]; simp [hmod])

theorem zeroCells_inv {t : TypeId} {n : Nat} {z : List AVal} (h : zeroCells P t = some (n, z)) :
    ∃ i zv, P.info? t = some i ∧ i.size = n ∧ i.zero = some zv ∧ z = (ofVal zv).cells ∧ z.length = n ∧ 0 < n ∧ ∀ m, RowRel m z zv.cells := by
  unfold zeroCells at h
  split at h
  · rename_i n' z' hn hz
    split at h
    · rename_i hc
      cases h
      simp only [Bool.and_eq_true] at hc
      obtain ⟨⟨h1, h2⟩, h3⟩ := hc
      have h1 := Nat.eq_of_beq_eq_true h1
      have h2 := nat_lt_of_blt h2
      unfold size? at hn
      simp only [Option.map_eq_some_iff] at hn
      obtain ⟨i, hi, rfl⟩ := hn
      unfold zero? at hz
      rw [hi] at hz
      exact ⟨i, z', hi, rfl, hz, rfl, h1, h2, fun m => ofVal_row h3⟩
    · cases h
  · cases h

/-- A block of cells that an operation lays, out of a row of values. -/
theorem newCells_block {m m' : Plc} {w w' : World} {id : Nat} {cs : List AVal} {ccs : Array Value} {el : TypeId} {lo hi : Nat} {pl : Pl} (hm : m.le m') (hpl : ∀ e q, m' id e = some q ↔ e = 0 ∧ q = pl)
    (hw : w'.heap = w.heap.push (.cells ccs el (lo, hi))) (hlo : ccs.size ≤ lo ∨ hi ≤ lo) (hb : pl.blk = w.heap.size) (he : pl.ext = cs.length) (ht : pl.tot = ccs.size ∧ pl.ro = false)
    (hr : ∀ (i : Nat) (v : AVal) (c : Value), cs[i]? = some v → ccs[i]? = some c → ValRel m v c ∧ c.oneCell' = true) : BlockRel m' w' id (.cells cs 0 0) :=
  BlockRel.newCells hm (fun e q hq => by obtain ⟨rfl, rfl⟩ := (hpl e q).1 hq; exact ⟨rfl, hb, he, ht⟩) hw hlo hr

theorem lays_new {v : AVal} (hs : v.solid = true) (hev : ∀ M, evOp P e M o = evNew M v) (hrun : ∀ m w ρ, OpsRel m e ρ o → ∃ c el, ValRel m v c ∧
    (execOp ρ o).run P w = .ok (.value (.pointer (some ⟨w.heap.size, 0, none⟩))) (w.alloc (.cells c.cells el))) :
    Lays P e o (fun id => .ptr ⟨id, 0, 0, v.cells.length⟩) (.cells v.cells 0 0) where
  ev M := by rw [hev]; simp [evNew, hs]
  run m w ρ hρ := by
    obtain ⟨c, el, hv, hr⟩ := hrun m w ρ hρ
    have hrow := hv.row hs
    refine ⟨_, _, _, ⟨w.heap.size, v.cells.length, c.cells.size, (by rw [hrow.1]; exact Nat.le_refl _), false, 0⟩, hr, rfl, rfl, rfl, rfl, rfl, fun id m' hm hpl => ⟨?_, ?_⟩⟩
    · exact .ptr ⟨id, 0, 0, v.cells.length⟩ _ ((hpl 0 _).2 ⟨rfl, rfl⟩) ⟨Nat.le_refl _, Nat.le_refl 0⟩
    · exact newCells_block hm hpl rfl (.inr (Nat.le_refl 0)) rfl rfl ⟨rfl, rfl⟩ hrow.2

theorem lays_alloc {t : TypeId} (ho : o.op = .alloc t) (hs : (zero P t).solid = true) : Lays P e o (fun id => .ptr ⟨id, 0, 0, (zero P t).cells.length⟩) (.cells (zero P t).cells 0 0) := by
  refine lays_new hs (fun M => ?_) (fun m w ρ _ => ?_)
  · unfold evOp; rw [ho]
  · have hz : ∃ z, zero? P t = some z ∧ zero P t = ofVal z := by
      unfold zero at hs ⊢
      cases hz : zero? P t with
      | none => rw [hz] at hs; cases hs
      | some z => exact ⟨z, rfl, rfl⟩
    obtain ⟨z, hz, he⟩ := hz
    refine ⟨z, t, by rw [he]; exact ofVal_rel m z, ?_⟩
    unfold execOp
    rw [ho]
    simp [Instr.alloc, zero?_run hz, Go.newVar, Go.newRow]

theorem lays_box {t : TypeId} {x : Operand} (ho : o.op = .box t x) (hs : (evalO e x).solid = true) : Lays P e o (fun id => .ptr ⟨id, 0, 0, (evalO e x).cells.length⟩) (.cells (evalO e x).cells 0 0) := by
  refine lays_new hs (fun M => ?_) (fun m w ρ hρ => ?_)
  · unfold evOp; rw [ho]
  · refine ⟨ρ x, t, hρ x (by rw [ho]; simp [Op.operands]), ?_⟩
    unfold execOp
    rw [ho]
    simp [Instr.box, Go.newVar, Go.newRow]

theorem evRow_inv {M M' : Mem} {sz n : Nat} {x : Option (List AVal)} {v : AVal} (h : evRow M sz n x = .val v M') : ∃ cs, x = some cs := by
  cases x with
  | none => cases h
  | some cs => exact ⟨cs, rfl⟩

theorem overlay_append (pre zs vs : List AVal) : overlay (pre ++ zs) pre.length vs = pre ++ (vs ++ zs.drop vs.length) := by
  induction pre with
  | nil => cases zs <;> rfl
  | cons c pre ih => show c :: overlay (pre ++ zs) pre.length vs = _; rw [ih]; rfl

theorem rowsV_fillV (sz : Nat) : ∀ (ps : List (Nat × AVal)) (k : Nat) (pre zs cs : List AVal), rowsV sz ps k = some cs → pre.length = k * sz → zs.length = ps.length * sz → fillV (rowAt sz) (pre ++ zs) ps = some (pre ++ cs)
  | [], k, pre, zs, cs, h, _, hz => by
    cases h
    have : zs = [] := List.eq_nil_of_length_eq_zero (by simpa using hz)
    subst this; rfl
  | (i, v) :: ps, k, pre, zs, cs, h, hp, hz => by
    simp only [rowsV] at h
    split at h
    · rename_i hc
      have hc' := hc
      simp only [Bool.and_eq_true] at hc
      obtain ⟨⟨h1, h2⟩, h3⟩ := hc
      have h1 := Nat.eq_of_beq_eq_true h1
      have h3' := Nat.eq_of_beq_eq_true h3
      subst h1
      split at h
      · rename_i rest hr
        cases h
        have hzl : zs.length = ps.length * sz + sz := by rw [hz, List.length_cons, Nat.add_mul]; omega
        have hb : Nat.ble (i * sz + sz) (pre ++ zs).length = true := Nat.ble_eq_true_of_le (by rw [List.length_append, hp, hzl]; omega)
        simp only [fillV, rowAt, h2, h3, hb, Bool.and_true]
        rw [← hp, overlay_append]
        have := rowsV_fillV sz ps (i + 1) (pre ++ v.cells) (zs.drop v.cells.length) rest hr (by rw [List.length_append, hp, h3', Nat.add_mul]; omega) (by rw [List.length_drop, hzl, h3']; omega)
        rw [List.append_assoc, List.append_assoc] at this
        exact this
      · cases h
    · cases h

theorem fillRow_eq {sz n : Nat} {z : List AVal} {ps : List (Nat × AVal)} {cs : List AVal} (hz : z.length = sz) (h : fillRow sz n z ps = some cs) : fillV (rowAt sz) (repeatCells z n) ps = some cs := by
  unfold fillRow at h
  split at h
  · rename_i h1 h2
    cases h
    have := rowsV_fillV sz ps 0 [] (repeatCells z n) _ h2 (by simp) (by rw [repeat_length, hz, Nat.eq_of_beq_eq_true h1])
    simpa using this
  · exact h

theorem lays_buildSlice {t : TypeId} {n : Nat} {ps : Array (Nat × Operand)} (ho : o.op = .buildSlice t n ps) {M M' : Mem} {v : AVal} (h : evOp P e M o = .val v M') : ∃ hd b, Lays P e o hd b := by
  have hev : ∀ M, evOp P e M o = evBuildSlice P e M t n ps := fun M => by unfold evOp; rw [ho]
  rw [hev] at h
  unfold evBuildSlice at h
  cases het : elemOf P t with
  | none => rw [het] at h; cases h
  | some et =>
    rw [het] at h
    cases hz : zeroCells P et with
    | none => simp only [hz] at h; cases h
    | some q =>
      obtain ⟨sz, z⟩ := q
      simp only [hz] at h
      split at h
      · rename_i hle
        obtain ⟨cs, hf0⟩ := evRow_inv h
        obtain ⟨i, zv, hi, hsz, hzv, hzz, hzl, hpos, hzrow⟩ := zeroCells_inv hz
        have hf := fillRow_eq hzl hf0
        have hu := elemOf_inv het
        refine ⟨fun id => .slice ⟨id, 0, 0, cs.length⟩ sz n n true, .cells cs 0 0, { ev := fun M => ?_, run := fun m w ρ hρ => ?_ }⟩
        · rw [hev]; unfold evBuildSlice; rw [het]; simp only [hz, hle, hf0]; rfl
        · have hparts := partsV_rel (m := m) (e := e) (ρ := ρ) ps (fun p hp => hρ p.2 (by
            rw [ho]; simp only [Op.operands]
            exact List.mem_toArray.2 (List.mem_map.2 ⟨p, hp, rfl⟩)))
          have hrep := (hzrow m).repeat (by omega) n (n * sz) (by rw [hzl])
          obtain ⟨ds, hd, hr⟩ := fillV_fill _ _ _ _ _ hf hparts hrep
          have hdl : ds.size = n * sz := by
            have := hr.1
            have hcl : cs.length = (repeatCells z n).length := by
              clear hd hr this
              have : ∀ (l : List (Nat × AVal)) (a b : List AVal), fillV (rowAt sz) a l = some b → b.length = a.length := by
                intro l
                induction l with
                | nil => intro a b h; cases h; rfl
                | cons p l ih =>
                  intro a b h
                  obtain ⟨i, u⟩ := p
                  simp only [fillV, rowAt] at h
                  split at h
                  · rename_i hc
                    simp only [Bool.and_eq_true] at hc
                    have h1 := Nat.eq_of_beq_eq_true hc.1.2
                    have h2 := Nat.le_of_ble_eq_true hc.2
                    rw [ih _ _ h, overlay_length _ _ _ (by omega)]
                  · cases h
              exact this _ _ _ hf
            rw [repeat_length, hzl] at hcl
            omega
          have hcl : cs.length = n * sz := hr.1.trans hdl
          refine ⟨.slice (some ⟨w.heap.size, 0, none⟩) n n, .cells ds et, w.alloc (.cells ds et), ⟨w.heap.size, cs.length, ds.size, (by rw [hr.1]; exact Nat.le_refl _), false, 0⟩, ?_, rfl, rfl, rfl, rfl, rfl, fun id m' hm hpl => ⟨?_, ?_⟩⟩
          · unfold execOp
            rw [ho]
            have h1 : ¬ (16777216 < n * i.size) := by have := Nat.le_of_ble_eq_true hle; rw [hsz]; omega
            have hd' : Instr.fill (fun i' => some (i' * i.size, i.size)) (madeCells zv.cells (n * i.size)) (ps.map fun (i, x) => (i, ρ x)).toList = some ds := by rw [hsz]; exact hd
            by_cases hn : n * i.size = 0
            · have hz0 : madeCells zv.cells (n * i.size) = (Array.range (n * i.size)).map ((#[] : Array Value)[· % (#[] : Array Value).size]!) := by
                rw [hn]; simp [madeCells]
              simp only [Instr.buildSlice, Sem.run_bind, run_underlying hu, Result.andThen_ok, Go.sizeOf, Go.typeInfo, run_program, hi, Sem.run_pure, if_neg h1, if_pos hn]
              rw [← hz0, hd']
              simp [Go.newRow]
            · simp only [Instr.buildSlice, Sem.run_bind, run_underlying hu, Result.andThen_ok, Go.sizeOf, Go.typeInfo, run_program, hi, Sem.run_pure, if_neg h1, if_neg hn, Go.zeroValue, hzv]
              have : (Array.range (n * i.size)).map (zv.cells[· % zv.cells.size]!) = madeCells zv.cells (n * i.size) := rfl
              rw [this, hd']
              simp [Go.newRow]
          · have hmx : n ≤ maxLen := by
              have := Nat.le_of_ble_eq_true hle
              have h2 : n ≤ n * sz := Nat.le_mul_of_pos_right n hpos
              unfold maxLen; omega
            exact .slice ⟨id, 0, 0, cs.length⟩ sz n n true _ n ((hpl 0 _).2 ⟨rfl, rfl⟩) ⟨Nat.le_refl _, Nat.le_refl 0⟩ (Nat.le_refl _) (Nat.le_refl _) (fun _ => rfl) (by show 0 + n * sz ≤ cs.length; omega) (by show 0 + n * sz ≤ ds.size; omega) hmx
          · exact newCells_block hm hpl rfl (.inr (Nat.le_refl 0)) rfl rfl ⟨rfl, rfl⟩ hr.2
      · cases h

theorem lays_makeMap {t : TypeId} {r : Option Operand} (ho : o.op = .makeMap t r) {M M' : Mem} {v : AVal} (h : evOp P e M o = .val v M') : ∃ hd b, Lays P e o hd b := by
  have hev : ∀ M, evOp P e M o = evMakeMap P e M t r := fun M => by unfold evOp; rw [ho]
  rw [hev] at h
  have hblock : ∀ (w : World) (id : Nat) (m' : Plc) (pl : Pl), pl.blk = w.heap.size → pl.ro = false → (∀ e q, m' id e = some q ↔ e = 0 ∧ q = pl) → ValRel m' (.map id) (.map (some w.heap.size)) ∧ BlockRel m' (w.alloc (.map #[] 0)) id (.map []) := by
    intro w id m' pl hb hro hpl
    refine ⟨?_, ?_⟩
    · rw [← hb]; exact .map id pl ((hpl 0 pl).2 ⟨rfl, rfl⟩)
    · intro q hq
      obtain ⟨_, rfl⟩ := (hpl 0 q).1 hq
      exact ⟨hro, #[], 0, by rw [hb]; exact heap_alloc_new w _, rfl, fun i p c h1 _ => by simp at h1⟩
  cases r with
  | none =>
    refine ⟨fun id => .map id, .map [], { ev := fun M => by rw [hev]; rfl, run := fun m w ρ _ => ⟨.map (some w.heap.size), .map #[] 0, w.alloc (.map #[] 0), ⟨w.heap.size, 0, 0, Nat.le_refl 0, false, 0⟩, ?_, rfl, rfl, rfl, rfl, rfl, fun id m' _ hpl => hblock w id m' _ rfl rfl hpl⟩ }⟩
    unfold execOp; rw [ho]; rfl
  | some x =>
    unfold evMakeMap at h
    cases hm : mapTypes P t with
    | none => simp only [hm] at h; cases h
    | some q =>
      simp only [hm] at h
      split at h
      · rename_i k n hx
        obtain ⟨kt, et⟩ := q
        have hu := mapTypes_inv hm
        refine ⟨fun id => .map id, .map [], { ev := fun M => by rw [hev]; unfold evMakeMap; simp only [hm, hx], run := fun m w ρ hρ => ⟨.map (some w.heap.size), .map #[] 0, w.alloc (.map #[] 0), ⟨w.heap.size, 0, 0, Nat.le_refl 0, false, 0⟩, ?_, rfl, rfl, rfl, rfl, rfl, fun id m' _ hpl => hblock w id m' _ rfl rfl hpl⟩ }⟩
        have hv := hρ x (by rw [ho]; simp [Op.operands])
        rw [hx] at hv
        unfold execOp; rw [ho]
        simp only [Option.map_some, hv.int_inv]
        simp [Instr.makeMap, run_underlying hu, Go.asInt, Go.asIntOf]
      · cases h

theorem lays_makeSlice {t : TypeId} {l c : Operand} (ho : o.op = .makeSlice t l c) {M M' : Mem} {v : AVal} (h : evOp P e M o = .val v M') : ∃ hd b, Lays P e o hd b := by
  have hev : ∀ M, evOp P e M o = evMakeSlice P M t (evalO e l) (evalO e c) := fun M => by unfold evOp; rw [ho]
  rw [hev] at h
  unfold evMakeSlice at h
  cases het : elemOf P t with
  | none => rw [het] at h; cases h
  | some et =>
    rw [het] at h
    cases hz : zeroCells P et with
    | none => simp only [hz] at h; cases h
    | some q =>
      obtain ⟨sz, z⟩ := q
      simp only [hz] at h
      split at h
      · rename_i n k hl hc
        split at h
        · rename_i hb
          obtain ⟨i, zv, hi, hsz, hzv, hzz, hzl, hpos, hzrow⟩ := zeroCells_inv hz
          have hu := elemOf_inv het
          have hb' := hb
          simp only [Bool.and_eq_true] at hb
          have b1 := Nat.le_of_ble_eq_true hb.1.1.1
          have b2 := Nat.le_of_ble_eq_true hb.1.1.2
          have b3 := Nat.le_of_ble_eq_true hb.1.2
          refine ⟨fun id => .slice ⟨id, 0, 0, k * sz⟩ sz n k true, .cells (repeatCells z k) 0 0, { ev := fun M => ?_, run := fun m w ρ hρ => ?_ }⟩
          · rw [hev]; unfold evMakeSlice; rw [het]; simp only [hz, hl, hc, hb']
          · have hrep := (hzrow m).repeat (by omega) k (k * sz) (by rw [hzl])
            have vl := hρ l (by rw [ho]; simp [Op.operands])
            have vc := hρ c (by rw [ho]; simp [Op.operands])
            rw [hl] at vl
            rw [hc] at vc
            have hrl : (repeatCells z k).length = k * sz := by rw [repeat_length, hzl]
            have hby : (i.bytes : Int) * (k : Int) ≤ 281474976710656 := by
              have hb : bytes P et = i.bytes := by simp [bytes, hi]
              rw [hb] at b3
              have : ((i.bytes * k : Nat) : Int) ≤ 281474976710656 := by rw [Nat.mul_comm]; omega
              rwa [Int.natCast_mul] at this
            refine ⟨.slice (some ⟨w.heap.size, 0, none⟩) n k, .cells (madeCells zv.cells (k * sz)) et, w.alloc (.cells (madeCells zv.cells (k * sz)) et), ⟨w.heap.size, (repeatCells z k).length, (madeCells zv.cells (k * sz)).size, (by rw [size_madeCells, hrl]; exact Nat.le_refl _), false, 0⟩, ?_, rfl, rfl, rfl, rfl, rfl, fun id m' hm hpl => ⟨?_, ?_⟩⟩
            · unfold execOp; rw [ho]
              simp only [vl.int_inv, vc.int_inv]
              have hr := run_make (P := P) w t et i zv hu hi hzv .i64 .i64 n k (by omega) (by omega) hby (by omega)
              rw [hsz] at hr
              simp only [Int.toNat_natCast] at hr
              show Sem.run P (do pure (Next.value (← Instr.makeSlice t (.int .i64 (n : Int)) (.int .i64 (k : Int))))) w = _
              rw [Sem.run_bind, hr]
              rfl
            · exact .slice ⟨id, 0, 0, k * sz⟩ sz n k true _ k ((hpl 0 _).2 ⟨rfl, rfl⟩) ⟨(by show k * sz ≤ (repeatCells z k).length; omega), Nat.le_refl 0⟩ b1 (Nat.le_refl _) (fun _ => rfl) (by show 0 + k * sz ≤ k * sz; omega) (by show 0 + k * sz ≤ (madeCells zv.cells (k * sz)).size; rw [size_madeCells]; omega) (by unfold maxLen; omega)
            · exact newCells_block hm hpl rfl (.inr (Nat.le_refl 0)) rfl rfl ⟨rfl, rfl⟩ hrep.2
        · cases h
      · cases h

theorem lays_bytes {src dst : TypeId} {x : Operand} (ho : o.op = .convert src dst x) {et : TypeId} (hdst : P.underlying dst = some (.slice et)) {M M' : Mem} {v : AVal} (h : evOp P e M o = .val v M') : ∃ hd b, Lays P e o hd b := by
  have hev : ∀ M, evOp P e M o = evConvert P M src dst (evalO e x) := fun M => by unfold evOp; rw [ho]
  rw [hev] at h
  unfold evConvert at h
  cases hs : P.underlying src with
  | none => rw [hs] at h; cases h
  | some sd =>
    rw [hs] at h
    simp only [hdst] at h
    split at h
    · rename_i s hx
      split at h
      · rename_i he
        split at h
        · rename_i hle
          refine ⟨fun id => .slice ⟨id, 0, 0, s.length⟩ 1 s.length s.length false, .cells (s.map fun b => .int .u8 b.toNat) 0 0, { ev := fun M => ?_, run := fun m w ρ hρ => ?_ }⟩
          · rw [hev]; unfold evConvert; simp only [hs, hdst, hx, he, hle]
          · have hle := Nat.le_of_ble_eq_true hle
            have hv := hρ x (by rw [ho]; simp [Op.operands])
            rw [hx] at hv
            have hsz : (⟨s.toArray⟩ : ByteArray).size = s.length := by simp [ByteArray.size]
            let cap := (Question.appendCap s.length 0 et).cut (w.tape w.drawn (.appendCap s.length 0 et))
            have hcap : s.length ≤ cap ∧ cap ≤ maxLen := by
              have hlt := Nat.mod_lt (w.tape w.drawn (.appendCap s.length 0 et)) (show 0 < 2 ^ 63 - s.length by omega)
              show s.length ≤ s.length + _ ∧ s.length + _ ≤ maxLen
              unfold maxLen
              omega
            let row : Array Value := (s.toArray.map fun b => Value.int .u8 b.toNat) ++ Array.replicate (cap - s.length) (.int .u8 0)
            have hrow : row.size = cap := by simp [row]; omega
            let w' : World := { w with drawn := w.drawn + 1, heap := w.heap.push (.cells row et (cap, cap + 1)) }
            refine ⟨.slice (some ⟨w.heap.size, 0, none⟩) s.length cap, .cells row et (cap, cap + 1), w', ⟨w.heap.size, s.length, cap, hcap.1, false, 0⟩, ?_, rfl, rfl, rfl, rfl, rfl, fun id m' hm hpl => ⟨?_, ?_⟩⟩
            · unfold execOp; rw [ho]
              simp only [hv.str_inv]
              show Sem.run P (do pure (Next.value (← Go.convert src dst (.string ⟨s.toArray⟩)))) w = _
              have hconv : Sem.run P (Go.convert src dst (.string ⟨s.toArray⟩)) w = .ok (.slice (some ⟨w.heap.size, 0, none⟩) s.length cap) w' := by
                unfold Go.convert
                rw [Sem.run_bind, run_underlying hs, Result.andThen_ok, Sem.run_bind, run_underlying hdst, Result.andThen_ok]
                have hinner : Sem.run P (Conv.stringToBytes et ⟨s.toArray⟩) w = .ok (.slice (some ⟨w.heap.size, 0, none⟩) s.length cap) w' := by
                  unfold Conv.stringToBytes
                  rw [Sem.run_bind]
                  have hch : Sem.run P (choose (.appendCap (⟨s.toArray⟩ : ByteArray).size 0 et)) w = .ok cap { w with drawn := w.drawn + 1 } := by
                    rw [hsz]; simp [choose, Sem.run, Question.forced, cap]
                  rw [hch, Result.andThen_ok, Sem.run_bind]
                  have hnew : Sem.run P (Go.newRow et (((⟨s.toArray⟩ : ByteArray).data.map fun b => Value.int .u8 b.toNat) ++ Array.replicate (cap - (⟨s.toArray⟩ : ByteArray).size) (.int .u8 0))) { w with drawn := w.drawn + 1 } =
                      .ok ⟨w.heap.size, 0, none⟩ { w with drawn := w.drawn + 1, heap := w.heap.push (.cells row et) } := by
                    rw [hsz]; rfl
                  rw [hnew, Result.andThen_ok, Sem.run_bind]
                  have hmark : Sem.run P (markStringish ⟨w.heap.size, 0, none⟩) { w with drawn := w.drawn + 1, heap := w.heap.push (.cells row et) } = .ok () w' := by
                    have hsh : World.shape? { w with drawn := w.drawn + 1, heap := w.heap.push (.cells row et) } w.heap.size = some (et, row.size) := by simp only [World.shape?, Array.getElem?_push_size]
                    simp only [markStringish, Sem.run_bind, shape, Sem.run, hsh, Result.andThen_ok, freeze, World.freeze]
                    rw [hrow]
                    simp only [w', if_neg (show ¬ ((1 : Nat) = 0) by omega)]
                    congr 2
                    apply Array.ext_getElem?
                    intro i
                    rw [Array.getElem?_modify, Array.getElem?_push, Array.getElem?_push]
                    by_cases hi : i = w.heap.size
                    · subst hi; simp
                    · rw [if_neg hi, if_neg (Ne.symm hi), if_neg hi]
                  rw [hmark, Result.andThen_ok, hsz]
                  rfl
                cases sd <;> (simp only [Sem.run_bind, run_underlying he, Result.andThen_ok]; exact hinner)
              rw [Sem.run_bind, hconv]
              rfl
            · exact .slice ⟨id, 0, 0, s.length⟩ 1 s.length s.length false _ cap ((hpl 0 _).2 ⟨rfl, rfl⟩) ⟨Nat.le_refl _, Nat.le_refl 0⟩ (Nat.le_refl _) hcap.1 (fun h => by cases h) (by show 0 + s.length * 1 ≤ s.length; omega) (by show 0 + cap * 1 ≤ cap; omega) hcap.2
            · refine newCells_block hm hpl rfl (.inl (by omega)) rfl (by simp) ⟨hrow.symm, rfl⟩ (fun i u c hu hc => ?_)
              rw [List.getElem?_map] at hu
              cases hb : s[i]? with
              | none => rw [hb] at hu; cases hu
              | some b =>
                rw [hb] at hu
                cases hu
                have hi : i < s.length := by
                  rcases Nat.lt_or_ge i s.length with h | h
                  · exact h
                  · simp [List.getElem?_eq_none h] at hb
                have : row[i]? = some (Value.int .u8 b.toNat) := by
                  simp only [row]
                  rw [Array.getElem?_append_left (by simpa using hi)]
                  simp [hb]
                rw [this] at hc
                cases hc
                exact ⟨.int _ _, rfl⟩
        · cases h
      · cases h
    · cases h

end
end Go.VE
