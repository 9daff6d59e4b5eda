/-
  The abstract evaluator: the operations that only reckon.
-/
import Derived.Test.YtiikicpepnaghaaGreatDoorVePure
import Derived.Laws.Entries
namespace Go.VE

section
variable {P : Program}

/-! Types -/

theorem agg?_run {t : TypeId} {b : Bool} (h : agg? P t = some b) (w : World) : (Go.isAgg t).run P w = .ok b w := by
  unfold agg? at h
  unfold Go.isAgg
  cases hu : P.underlying t with
  | none => rw [hu] at h; cases h
  | some d =>
    rw [hu] at h
    rw [Sem.run_bind, run_underlying hu]
    cases d <;> (cases h; rfl)

theorem size?_run {t : TypeId} {n : Nat} (h : size? P t = some n) (w : World) : (Go.sizeOf t).run P w = .ok n w := by
  unfold size? at h
  simp only [Option.map_eq_some_iff] at h
  obtain ⟨i, hi, rfl⟩ := h
  simp [Go.sizeOf, Go.typeInfo, hi]

theorem zero?_run {t : TypeId} {z : Value} (h : zero? P t = some z) (w : World) : (Go.zeroValue t).run P w = .ok z w := by
  unfold zero? at h
  cases hi : P.info? t with
  | none => rw [hi] at h; cases h
  | some i =>
    rw [hi] at h
    have hz : i.zero = some z := h
    simp [Go.zeroValue, Go.typeInfo, hi, hz]

theorem elemOf_inv {t e : TypeId} (h : elemOf P t = some e) : P.underlying t = some (.slice e) := by
  unfold elemOf at h
  split at h
  · rename_i x hu; cases h; exact hu
  · cases h

theorem mapTypes_inv {t k e : TypeId} (h : mapTypes P t = some (k, e)) : P.underlying t = some (.map k e) := by
  unfold mapTypes at h
  split at h
  · rename_i x y hu; cases h; exact hu
  · cases h

/-! Parts -/

theorem RowRel.take_drop {m : Plc} {vs : List AVal} {cs : Array Value} (h : RowRel m vs cs) (off n : Nat) : RowRel m ((vs.drop off).take n) (cs.extract off (off + n)) := by
  refine ⟨by simp [h.1]; omega, fun i v c hv hc => ?_⟩
  rw [List.getElem?_take] at hv
  split at hv
  · rename_i hi
    rw [List.getElem?_drop] at hv
    rw [Array.getElem?_extract] at hc
    split at hc
    · exact h.2 (off + i) v c hv hc
    · cases hc
  · cases hv

theorem partV_run {t : TypeId} {vs : List AVal} {off : Nat} {v : AVal} (h : partV P t vs off = some v) {m : Plc} {cs : Array Value} (hr : RowRel m vs cs) (w : World) :
    ∃ c, (Go.part t cs off).run P w = .ok c w ∧ ValRel m v c := by
  unfold partV at h
  unfold Go.part
  split at h
  · rename_i ha
    split at h
    · rename_i n hn
      cases h
      rw [Sem.run_bind, agg?_run ha, Result.andThen_ok]
      refine ⟨.agg (cs.extract off (off + n)), ?_, (hr.take_drop off n).agg⟩
      simp [size?_run hn]
    · cases h
  · rename_i ha
    obtain ⟨c, hc, hv, _⟩ := hr.at h
    rw [Sem.run_bind, agg?_run ha, Result.andThen_ok]
    exact ⟨c, by simp [hc], hv⟩
  · cases h

/-! Rows that are filled -/

/-- Cells laid one by one. -/
def layCells (cs : Array Value) (off : Nat) : List Value → Array Value
  | [] => cs
  | v :: vs => layCells (cs.setIfInBounds off v) (off + 1) vs

theorem foldl_layCells (off : Nat) : ∀ (vs : List Value) (j : Nat) (cs : Array Value), (vs.zipIdx j).foldl (fun cs (c, j) => cs.setIfInBounds (off + j) c) cs = layCells cs (off + j) vs
  | [], _, _ => rfl
  | v :: vs, j, cs => by
    simp only [List.zipIdx_cons, List.foldl_cons, layCells]
    rw [foldl_layCells off vs (j + 1)]
    congr 1

theorem layCells_size (vs : List Value) : ∀ (cs : Array Value) (off : Nat), (layCells cs off vs).size = cs.size := by
  induction vs with
  | nil => intro cs off; rfl
  | cons v vs ih => intro cs off; simp only [layCells]; rw [ih]; simp

theorem layCells_get (vs : List Value) : ∀ (cs : Array Value) (off i : Nat), (layCells cs off vs)[i]? = if off ≤ i ∧ i < off + vs.length ∧ i < cs.size then vs[i - off]? else cs[i]? := by
  induction vs with
  | nil => intro cs off i; rw [if_neg (by simp only [List.length_nil]; omega)]; rfl
  | cons v vs ih =>
    intro cs off i
    simp only [layCells]
    rw [ih, Array.size_setIfInBounds]
    by_cases hi : off + 1 ≤ i ∧ i < off + 1 + vs.length ∧ i < cs.size
    · rw [if_pos hi, if_pos (by simp only [List.length_cons]; omega)]
      have : i - off = (i - (off + 1)) + 1 := by omega
      rw [this]; simp
    · rw [if_neg hi]
      by_cases he : i = off
      · subst he
        by_cases hs : i < cs.size
        · rw [if_pos (by simp only [List.length_cons]; omega)]; simp [hs]
        · rw [if_neg (by omega)]; simp [hs]
      · rw [if_neg (by simp only [List.length_cons]; omega), Array.getElem?_setIfInBounds_ne (Ne.symm he)]

theorem RowRel.lay {m : Plc} {vs us : List AVal} {cs ds : Array Value} (h : RowRel m vs cs) (h' : RowRel m us ds) (off : Nat) (hl : off + us.length ≤ vs.length) : RowRel m (overlay vs off us) (layCells cs off ds.toList) := by
  refine ⟨by rw [overlay_length _ _ _ hl, layCells_size]; exact h.1, fun i v c hv hc => ?_⟩
  rw [overlay_get _ _ _ _ hl] at hv
  rw [layCells_get] at hc
  have h1 := h.1
  have h2 := h'.1
  simp only [Array.length_toList] at hc
  by_cases hi : off ≤ i ∧ i < off + us.length
  · rw [if_pos hi] at hv
    rw [if_pos (by omega), Array.getElem?_toList] at hc
    exact h'.2 _ v c hv hc
  · rw [if_neg hi] at hv
    rw [if_neg (by omega)] at hc
    exact h.2 _ v c hv hc

/-- Parts, one by one. -/
def PartsRel (m : Plc) : List (Nat × AVal) → List (Nat × Value) → Prop
  | [], [] => True
  | (i, v) :: l, (j, c) :: r => i = j ∧ ValRel m v c ∧ PartsRel m l r
  | _, _ => False

theorem fill_eq (place : Nat → Option (Nat × Nat)) (cells : Array Value) (i : Nat) (v : Value) (rest : List (Nat × Value)) : Instr.fill place cells ((i, v) :: rest) =
    match place i with
    | none => none
    | some (off, size) => if v.cells.size ≠ size || off + v.cells.size > cells.size then none else Instr.fill place (layCells cells off v.cells.toList) rest := by
  simp only [Instr.fill]
  cases place i with
  | none => rfl
  | some p =>
    obtain ⟨off, size⟩ := p
    simp only
    congr 2
    have := foldl_layCells off v.cells.toList 0 cells
    rw [Nat.add_zero] at this
    rw [← this, ← Array.foldl_toList, Array.toList_zipIdx]

theorem fillV_fill {m : Plc} {place : Nat → Option (Nat × Nat)} : ∀ (l : List (Nat × AVal)) (r : List (Nat × Value)) (vs : List AVal) (cs : Array Value) (us : List AVal), fillV place vs l = some us → PartsRel m l r → RowRel m vs cs →
    ∃ ds, Instr.fill place cs r = some ds ∧ RowRel m us ds
  | [], [], vs, cs, us, h, _, hr => by cases h; exact ⟨cs, rfl, hr⟩
  | (i, v) :: l, (j, c) :: r, vs, cs, us, h, hp, hr => by
    obtain ⟨rfl, hv, hp⟩ := hp
    simp only [fillV] at h
    rw [fill_eq]
    cases hpl : place i with
    | none => rw [hpl] at h; cases h
    | some p =>
      obtain ⟨off, n⟩ := p
      rw [hpl] at h
      simp only at h
      split at h
      · rename_i hc
        simp only [Bool.and_eq_true] at hc
        obtain ⟨⟨hs, hn⟩, hle⟩ := hc
        have hn := Nat.eq_of_beq_eq_true hn
        have hle := Nat.le_of_ble_eq_true hle
        have hrow := hv.row hs
        have hlay := hr.lay hrow off (by omega)
        obtain ⟨ds, hd, hrd⟩ := fillV_fill l r _ _ us h hp hlay
        refine ⟨ds, ?_, hrd⟩
        have h1 := hrow.1
        have h2 := hr.1
        simp only [ne_eq, decide_not, Bool.or_eq_true, Bool.not_eq_eq_eq_not, Bool.not_true, decide_eq_false_iff_not, decide_eq_true_eq, gt_iff_lt]
        rw [if_neg (by omega)]
        exact hd
      · cases h
  | [], _ :: _, _, _, _, _, hp, _ => by cases hp
  | _ :: _, [], _, _, _, _, hp, _ => by cases hp

theorem partsV_rel {m : Plc} {e : Env} {ρ : Operand → Value} (ps : Array (Nat × Operand)) (h : ∀ p ∈ ps.toList, ValRel m (evalO e p.2) (ρ p.2)) :
    PartsRel m (partsV e ps) (ps.map fun (i, x) => (i, ρ x)).toList := by
  unfold partsV
  rw [Array.toList_map]
  generalize ps.toList = l at *
  induction l with
  | nil => trivial
  | cons p l ih =>
    simp only [List.map_cons]
    exact ⟨rfl, h p (by simp), ih fun q hq => h q (by simp [hq])⟩

/-! The operations, one by one -/

section
variable {m : Plc} {w : World} {ρ : Operand → Value} {e : Env} {M M' : Mem} {o : Oper} {v : AVal}

/-- What one operation must show: its value, the world as it was. -/
abbrev Pures (P : Program) (M M' : Mem) (m : Plc) (w : World) (s : Sem Value) (v : AVal) : Prop := M' = M ∧ ∃ c, s.run P w = .ok c w ∧ ValRel m v c

theorem evPick_sound {c a b : AVal} (h : evPick M c a b = .val v M') {cc ca cb : Value} (hc : ValRel m c cc) (ha : ValRel m a ca) (hb : ValRel m b cb) :
    M' = M ∧ ∃ r, (do pure (.value (if ← Go.asBool cc then ca else cb)) : Sem Next).run P w = .ok (.value r) w ∧ ValRel m v r := by
  unfold evPick at h
  split at h <;> cases h
  · rw [hc.bool_inv]; exact ⟨rfl, ca, rfl, ha⟩
  · rw [hc.bool_inv]; exact ⟨rfl, cb, rfl, hb⟩

theorem evAgg_inv {x : Option (List AVal)} (h : evAgg M x = .val v M') : ∃ cs, x = some cs ∧ v = .agg cs ∧ M' = M := by
  cases x with
  | none => cases h
  | some cs => cases h; exact ⟨cs, rfl, rfl, rfl⟩

theorem fieldPlaces_eq (fs : Array Field) : fieldPlaces P fs = fs.toList.mapM (fun f => (P.info? f.type).map fun i => (f.offset, i.size)) := rfl

theorem evBuild_sound {t : TypeId} {ps : Array (Nat × Operand)} (h : evBuild P e M t ps = .val v M') (hp : ∀ p ∈ ps.toList, ValRel m (evalO e p.2) (ρ p.2)) :
    Pures P M M' m w (Instr.build t (ps.map fun (i, x) => (i, ρ x))) v := by
  unfold evBuild at h
  cases hz : zero? P t with
  | none => rw [hz] at h; cases h
  | some z =>
    rw [hz] at h
    simp only [evBuildZ] at h
    obtain ⟨it, hit, hitz⟩ : ∃ it, P.info? t = some it ∧ it.zero = some z := by
      unfold zero? at hz
      cases hi : P.info? t with
      | none => rw [hi] at hz; cases hz
      | some it => rw [hi] at hz; exact ⟨it, rfl, hz⟩
    have hparts := partsV_rel (m := m) (e := e) (ρ := ρ) ps hp
    split at h
    · rename_i hs
      have hzrow : RowRel m (ofVal z).cells z.cells := ofVal_row hs
      split at h
      · rename_i fs hu
        cases hl : fieldPlaces P fs with
        | none => rw [hl] at h; cases h
        | some l =>
          rw [hl] at h
          obtain ⟨cs, hf, rfl, rfl⟩ := evAgg_inv h
          obtain ⟨ds, hd, hr⟩ := fillV_fill _ _ _ _ _ hf hparts hzrow
          refine ⟨rfl, .agg ds, run_build w t _ ds ?_, hr.agg⟩
          unfold Program.built
          rw [hit, hu]
          simp only [hitz]
          rw [← fieldPlaces_eq, hl]
          simp only
          have : (fun x => l.toArray[x]?) = listAt l := by funext x; simp [listAt]
          rw [this]; exact hd
      · rename_i n et hu
        cases hl : size? P et with
        | none => rw [hl] at h; cases h
        | some n =>
          rw [hl] at h
          obtain ⟨cs, hf, rfl, rfl⟩ := evAgg_inv h
          obtain ⟨ds, hd, hr⟩ := fillV_fill _ _ _ _ _ hf hparts hzrow
          refine ⟨rfl, .agg ds, run_build w t _ ds ?_, hr.agg⟩
          unfold size? at hl
          simp only [Option.map_eq_some_iff] at hl
          obtain ⟨ie, hie, rfl⟩ := hl
          unfold Program.built
          rw [hit, hu]
          simp only [hitz, hie]
          exact hd
      · cases h
    · cases h

theorem evNilCheck_sound {x : AVal} (h : evNilCheck M x = .val v M') {c : Value} (hc : ValRel m x c) :
    M' = M ∧ ValRel m v c ∧ (match c with
      | .pointer none | .nilIface | .nilFunc => (runtimePanic .nilDeref : Sem Next)
      | .func (.method _) _ _ => stuck ""
      | x => pure (.value x)).run P w = .ok (.value c) w := by
  unfold evNilCheck at h
  split at h
  · rename_i hn
    cases h
    unfold isNilable at hn
    split at hn
    · obtain ⟨pl, _, _, rfl⟩ := hc.ptr_inv; exact ⟨rfl, hc, rfl⟩
    · obtain ⟨cs, rfl, _⟩ := hc.func_inv; exact ⟨rfl, hc, rfl⟩
    · cases hn
  · cases h

theorem evIface_sound {t : TypeId} {x : AVal} (h : evIface P M t x = .val v M') {c : Value} (hc : ValRel m x c) : Pures P M M' m w (Instr.makeInterface t c) v := by
  unfold evIface at h
  unfold Instr.makeInterface
  split at h
  · cases h
  · rename_i d n1 hu
    cases h
    rw [Pures, Sem.run_bind, run_underlying hu, Result.andThen_ok]
    split
    · exact absurd rfl (n1 _)
    · exact ⟨rfl, _, rfl, .iface _ _ _ hc⟩
  · cases h

theorem evFunc_sound {fn : Fn} {a b : Array Operand} (h : evFunc e M fn a b = .val v M') (hb : ∀ x ∈ b.toList, ValRel m (evalO e x) (ρ x)) :
    Pures P M M' m w (Instr.makeFunc fn (a.map ρ) (b.map ρ)) v := by
  unfold evFunc at h
  split at h
  · rename_i f ha
    cases h
    have ha : a = #[] := Array.toList_eq_nil_iff.1 ha
    subst ha
    refine ⟨rfl, .func (.func f) #[] (b.map ρ), by simp [Instr.makeFunc], .func f (b.toList.map (evalO e)) (b.map ρ) (by simp) (fun i u c hu hc => ?_)⟩
    rw [List.getElem?_map] at hu
    rw [Array.getElem?_map, ← Array.getElem?_toList] at hc
    cases hx : b.toList[i]? with
    | none => rw [hx] at hu; cases hu
    | some x =>
      rw [hx] at hu hc
      cases hu; cases hc
      exact hb x (List.mem_of_getElem? hx)
  · cases h

theorem evExtract_sound {x : AVal} {i : Nat} (h : evExtract M x i = .val v M') {c : Value} (hc : ValRel m x c) : Pures P M M' m w (Instr.extract c i) v := by
  unfold evExtract at h
  split at h
  · rename_i vs
    obtain ⟨h1, rfl⟩ := OpR.ofOpt_inv h
    obtain ⟨cs, rfl, hl, hr⟩ := hc.tuple_inv
    have hi : i < vs.length := by
      rcases Nat.lt_or_ge i vs.length with h | h
      · exact h
      · simp [List.getElem?_eq_none h] at h1
    have hcs : cs[i]? = some cs[i] := by simp [hl ▸ hi]
    exact ⟨rfl, cs[i], by simp [Instr.extract, hcs], hr i v _ h1 hcs⟩
  · cases h

theorem fieldOf_inv {t ft : TypeId} {i off : Nat} (h : fieldOf P t i = some (ft, off)) : ∃ fs f, P.underlying t = some (.struct fs) ∧ fs[i]? = some f ∧ f.type = ft ∧ f.offset = off := by
  unfold fieldOf at h
  split at h
  · rename_i fs hu
    split at h
    · rename_i f hf; cases h; exact ⟨fs, f, hu, hf, rfl, rfl⟩
    · cases h
  · cases h

theorem evFieldAddr_sound {t : TypeId} {x : AVal} {i : Nat} (h : evFieldAddr P M t x i = .val v M') {c : Value} (hc : ValRel m x c) : Pures P M M' m w (Instr.fieldAt t c i) v := by
  unfold evFieldAddr at h
  split at h
  · rename_i a
    split at h
    · rename_i ft off hf
      split at h
      · rename_i n hn
        cases h
        obtain ⟨pl, h1, h2, rfl⟩ := hc.ptr_inv
        obtain ⟨fs, f, hu, hfi, rfl, rfl⟩ := fieldOf_inv hf
        refine ⟨rfl, .pointer (some ⟨pl.blk, a.off + f.offset, none⟩), ?_, .ptr ⟨a.id, a.off + f.offset, a.ep, a.lim⟩ pl h1 ⟨h2.1, by have := h2.2; show pl.frm ≤ a.off + f.offset; omega⟩⟩
        have hadd : (⟨pl.blk, a.off, none⟩ : Addr).add f.offset = ⟨pl.blk, a.off + f.offset, none⟩ := by unfold Addr.add; split <;> simp_all
        simp [Instr.fieldAt, run_underlying hu, hfi, Instr.sureAddr, fieldPlace, size?_run hn, hadd]
      · cases h
    · cases h
  · cases h

theorem evField_sound {t : TypeId} {x : AVal} {i : Nat} (h : evField P M t x i = .val v M') {c : Value} (hc : ValRel m x c) : Pures P M M' m w (Instr.field t c i) v := by
  unfold evField at h
  split at h
  · rename_i vs
    split at h
    · rename_i ft off hf
      obtain ⟨h1, rfl⟩ := OpR.ofOpt_inv h
      obtain ⟨cs, rfl, hr⟩ := hc.agg_row
      obtain ⟨fs, f, hu, hfi, rfl, rfl⟩ := fieldOf_inv hf
      obtain ⟨d, hd, hv⟩ := partV_run h1 hr w
      exact ⟨rfl, d, by simp [Instr.field, run_underlying hu, hfi, Go.asAgg, hd], hv⟩
    · cases h
  · cases h

theorem natIn_inv {hi j : Nat} {x : AVal} (h : natIn hi x = some j) : ∃ k, x = .int k (j : Int) ∧ j ≤ hi := by
  unfold natIn at h
  split at h
  · rename_i k n
    split at h
    · rename_i hb; cases h; exact ⟨k, rfl, Nat.le_of_ble_eq_true hb⟩
    · cases h
  · cases h

theorem nat_lt_of_blt {a b : Nat} (h : Nat.blt a b = true) : a < b := Nat.le_of_ble_eq_true h

theorem evIndexAddr_sound {t : TypeId} {x i : AVal} (h : evIndexAddr P M t x i = .val v M') {c d : Value} (hc : ValRel m x c) (hd : ValRel m i d) : Pures P M M' m w (Instr.indexAt t c d) v := by
  unfold evIndexAddr at h
  split at h
  · rename_i a sz len cap ex
    split at h
    · rename_i n hn
      split at h
      · rename_i hsz
        split at h
        · rename_i j hj
          split at h
          · rename_i hlt
            cases h
            have hsz := Nat.eq_of_beq_eq_true hsz
            have hlt := nat_lt_of_blt hlt
            obtain ⟨k, rfl, _⟩ := natIn_inv hj
            obtain ⟨et, het, hs⟩ := Option.bind_eq_some_iff.1 hn
            have hu := elemOf_inv het
            obtain ⟨pl, cc, g1, g2, g3, g4, g5, g6, g7, g8, rfl⟩ := hc.slice_inv
            subst hsz
            refine ⟨rfl, .pointer (some ⟨pl.blk, a.off + j * n, none⟩), ?_, .ptr ⟨a.id, a.off + j * n, a.ep, a.lim⟩ pl g1 ⟨g2.1, Nat.le_trans g2.2 (Nat.le_add_right _ _)⟩⟩
            rw [hd.int_inv]
            have hadd : (⟨pl.blk, a.off, none⟩ : Addr).add (j * n) = ⟨pl.blk, a.off + j * n, none⟩ := by unfold Addr.add; split <;> simp_all
            have hin : (0 : Int) ≤ (j : Int) ∧ (j : Int) < (len : Int) := ⟨by omega, by omega⟩
            simp only [Instr.indexAt, Sem.run_bind, Go.asIntOf, Sem.run_pure, Result.andThen_ok, run_underlying hu, if_pos hin, size?_run hs, Int.toNat_natCast, hadd]
          · cases h
        · cases h
      · cases h
    · cases h
  · rename_i a
    split at h
    · rename_i n et hu
      split at h
      · rename_i sz j hs hj
        split at h
        · rename_i hlt
          cases h
          have hlt := nat_lt_of_blt hlt
          obtain ⟨k, rfl, _⟩ := natIn_inv hj
          obtain ⟨pl, g1, g2, rfl⟩ := hc.ptr_inv
          refine ⟨rfl, .pointer (some ⟨pl.blk, a.off + j * sz, none⟩), ?_, .ptr ⟨a.id, a.off + j * sz, a.ep, a.lim⟩ pl g1 ⟨g2.1, Nat.le_trans g2.2 (Nat.le_add_right _ _)⟩⟩
          rw [hd.int_inv]
          have hadd : (⟨pl.blk, a.off, none⟩ : Addr).add (j * sz) = ⟨pl.blk, a.off + j * sz, none⟩ := by unfold Addr.add; split <;> simp_all
          have hin : (0 : Int) ≤ (j : Int) ∧ (j : Int) < (n : Int) := ⟨by omega, by omega⟩
          simp only [Instr.indexAt, Sem.run_bind, Go.asIntOf, Sem.run_pure, Result.andThen_ok, run_underlying hu, Instr.sureAddr, if_pos hin, size?_run hs, Int.toNat_natCast, hadd]
        · cases h
      · cases h
    · cases h
  · cases h

theorem evIndex_sound {t : TypeId} {x i : AVal} (h : evIndex P M t x i = .val v M') {c d : Value} (hc : ValRel m x c) (hd : ValRel m i d) : Pures P M M' m w (Instr.index t c d) v := by
  unfold evIndex at h
  split at h
  · rename_i k j
    rw [hd.int_inv]
    split at h
    · rename_i s
      split at h
      · rename_i hu
        obtain ⟨h1, rfl⟩ := OpR.ofOpt_inv h
        rw [hc.str_inv]
        unfold byteAt at h1
        split at h1
        · rename_i b hb
          cases h1
          refine ⟨rfl, .int .u8 b.toNat, ?_, .int _ _⟩
          have hj : j < s.length := by
            rcases Nat.lt_or_ge j s.length with h | h
            · exact h
            · simp [List.getElem?_eq_none h] at hb
          have hget : (⟨s.toArray⟩ : ByteArray)[j]? = some b := by
            have h2 : j < (⟨s.toArray⟩ : ByteArray).size := by simpa [ByteArray.size] using hj
            rw [getElem?_pos (⟨s.toArray⟩ : ByteArray) j h2]
            have : (⟨s.toArray⟩ : ByteArray)[j] = s[j] := rfl
            rw [this]
            simpa [List.getElem?_eq_getElem hj] using hb
          simp only [Instr.index, Sem.run_bind, Go.asIntOf, Sem.run_pure, Result.andThen_ok, run_underlying hu]
          simp [hget]
        · cases h1
      · cases h
    · rename_i vs
      split at h
      · rename_i n et hu
        split at h
        · rename_i sz hlt hs
          obtain ⟨h1, rfl⟩ := OpR.ofOpt_inv h
          have hlt := nat_lt_of_blt hlt
          obtain ⟨cs, rfl, hr⟩ := hc.agg_row
          obtain ⟨r, hr1, hr2⟩ := partV_run h1 hr w
          refine ⟨rfl, r, ?_, hr2⟩
          have hin : (0 : Int) ≤ (j : Int) ∧ (j : Int) < (n : Int) := ⟨by omega, by omega⟩
          simp only [Instr.index, Sem.run_bind, Go.asIntOf, Sem.run_pure, Result.andThen_ok, run_underlying hu]
          simp [hlt, size?_run hs, hr1]
        · cases h
      · cases h
    · cases h
  · cases h

end
end
end Go.VE
