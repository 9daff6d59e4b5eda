/-
  The abstract evaluator: operations that neither read nor write memory.
-/
import Derived.Test.YtiikicpepnaghaaGreatDoorVeMem
import Derived.Laws.StructEq
import Derived.Laws.Cover3
import Derived.Laws.Pointers
import Derived.Laws.Tables
namespace Go.VE

/-- The operands, one by one. -/
def OpsRel (m : Plc) (e : Env) (ρ : Operand → Value) (o : Oper) : Prop := ∀ x ∈ o.op.operands, ValRel m (evalO e x) (ρ x)

theorem ofVal0_rel (m : Plc) (c : Value) : ValRel m (ofVal0 c) c := by
  unfold ofVal0
  split
  · exact .bool _
  · exact .int _ _
  · rename_i s
    have : (⟨s.data.toList.toArray⟩ : ByteArray) = s := by cases s; simp
    have h := ValRel.str (m := m) s.data.toList
    rwa [this] at h
  · exact .nilPtr
  · exact .nilSlice
  · exact .nilMap
  · exact .nilFunc
  · exact .nilIface
  · exact .iface _ _ _ (.bool _)
  · exact .iface _ _ _ (.int _ _)
  · rename_i t s
    have : (⟨s.data.toList.toArray⟩ : ByteArray) = s := by cases s; simp
    have h := ValRel.str (m := m) s.data.toList
    rw [this] at h
    exact .iface _ _ _ h
  · exact .undef _

theorem oneCellB_eq (c : Value) : oneCellB c = c.oneCell' := by cases c <;> rfl

theorem ofVal_rel (m : Plc) (c : Value) : ValRel m (ofVal c) c := by
  unfold ofVal
  split
  · rename_i cs
    split
    · rename_i hall
      refine .agg _ _ (by simp) (fun i v c hv hc => ?_) (fun i c hc => ?_)
      · rw [List.getElem?_map, Array.getElem?_toList, hc] at hv
        simp only [Option.map_some, Option.some.injEq] at hv
        subst hv
        exact ofVal0_rel m c
      · rw [← oneCellB_eq]
        exact List.all_eq_true.1 hall c (List.mem_of_getElem? (by rw [Array.getElem?_toList]; exact hc))
    · exact .undef _
  · exact ofVal0_rel m _

/-- The cells of a zero value. -/
theorem ofVal_row {m : Plc} {c : Value} (h : (ofVal c).solid = true) : RowRel m (ofVal c).cells c.cells := (ofVal_rel m c).row h

/-- What the slots hold. -/
def EnvRel (m : Plc) (e : Env) (a : Act) : Prop := ∀ t : Nat, ValRel m (e.at t) (a.tmps.getD t Go.undef)

theorem EnvRel.mono {m m' : Plc} (hm : m.le m') {e : Env} {a : Act} (h : EnvRel m e a) : EnvRel m' e a := fun t => (h t).mono hm

theorem EnvRel.eval {m : Plc} {e : Env} {a : Act} (h : EnvRel m e a) (x : Operand) : ValRel m (evalO e x) (a.eval x) := by
  cases x with
  | tmp t => exact h t
  | const v => exact ofVal_rel m v
  | global g => exact .undef _
  | func f => exact .func f [] #[] rfl (fun i v c hv _ => by simp at hv)

theorem EnvRel.put {m : Plc} {e : Env} {a : Act} (h : EnvRel m e a) {v : AVal} {c : Value} (hv : ValRel m v c) {d : Option Tmp} (hd : ∀ t, d = some t → t < a.tmps.size) : EnvRel m (e.put d v) (a.put d c) := by
  cases d with
  | none => exact h
  | some d =>
    intro t
    rw [Env.at_put]
    have hlt := hd d rfl
    by_cases he : t = d
    · subst he
      rw [if_pos rfl]
      simpa [Act.put, Array.getD, hlt] using hv
    · rw [if_neg he]
      have := h t
      simp only [Act.put, Array.getD_eq_getD_getElem?] at this ⊢
      rwa [Array.getElem?_setIfInBounds_ne (Ne.symm he)]

section
variable {P : Program}

/-- An operation that only reckons: it hands back a value, the world stays. -/
def Reckons (P : Program) (m : Plc) (w : World) (ρ : Operand → Value) (o : Oper) (v : AVal) : Prop :=
  ∃ c, (execOp ρ o).run P w = .ok (.value c) w ∧ ValRel m v c

theorem reckons_of {m : Plc} {w : World} {ρ : Operand → Value} {o : Oper} {v : AVal} {s : Sem Value} (ho : execOp ρ o = (do pure (.value (← s)))) {c : Value} (hs : s.run P w = .ok c w) (hv : ValRel m v c) : Reckons P m w ρ o v := by
  refine ⟨c, ?_, hv⟩
  rw [ho, Sem.run_bind, hs]
  rfl

theorem OpR.ofOpt_inv {M M' : Mem} {x : Option AVal} {v : AVal} (h : OpR.ofOpt M x = .val v M') : x = some v ∧ M' = M := by
  cases x with
  | none => cases h
  | some u => cases h; exact ⟨rfl, rfl⟩

/-! Operators -/

theorem binInt_run {op : BinOp} {t : TypeId} {k : IntKind} {a b : Int} {v : AVal} (h : binInt op k a b = some v) (hop : op ≠ .shl ∧ op ≠ .shr) (m : Plc) (w : World) :
    ∃ c, (Go.binOp op t (.int k a) (.int k b)).run P w = .ok c w ∧ ValRel m v c := by
  cases op <;> simp only [binInt] at h
  case shl => exact absurd rfl hop.1
  case shr => exact absurd rfl hop.2
  case quo => split at h; · cases h
              · rename_i hb; cases h; exact ⟨_, by simp [Go.binOp, Op.intDiv, hb], .int _ _⟩
  case rem => split at h; · cases h
              · rename_i hb; cases h; exact ⟨_, by simp [Go.binOp, Op.intDiv, hb], .int _ _⟩
  case add => cases h; exact ⟨_, by simp [Go.binOp, Op.intArith], .int _ _⟩
  case sub => cases h; exact ⟨_, by simp [Go.binOp, Op.intArith], .int _ _⟩
  case mul => cases h; exact ⟨_, by simp [Go.binOp, Op.intArith], .int _ _⟩
  case and => cases h; exact ⟨_, by simp only [Go.binOp, ne_eq, not_true, if_false]; rfl, .int _ _⟩
  case or => cases h; exact ⟨_, by simp only [Go.binOp, ne_eq, not_true, if_false]; rfl, .int _ _⟩
  case xor => cases h; exact ⟨_, by simp only [Go.binOp, ne_eq, not_true, if_false]; rfl, .int _ _⟩
  case andNot => cases h; exact ⟨_, by simp only [Go.binOp, ne_eq, not_true, if_false]; rfl, .int _ _⟩
  all_goals (cases h; exact ⟨_, by simp [Go.binOp, Op.intCmp], .bool _⟩)

theorem shiftInt_run {op : BinOp} {t : TypeId} {k k' : IntKind} {a b : Int} {v : AVal} (h : shiftInt op k a b = some v) (m : Plc) (w : World) :
    ∃ c, (Go.binOp op t (.int k a) (.int k' b)).run P w = .ok c w ∧ ValRel m v c := by
  unfold shiftInt at h
  split at h
  · cases h
  · rename_i hb
    cases op <;> simp only at h <;> cases h
    · exact ⟨_, by simp [Go.binOp, Op.shift, hb], .int _ _⟩
    · exact ⟨_, by simp [Go.binOp, Op.shift, hb], .int _ _⟩

theorem toList_mk (l : List UInt8) : (⟨l.toArray⟩ : ByteArray).toList = l := by rw [ByteArray.toList_eq]

theorem mk_append (a b : List UInt8) : (⟨a.toArray⟩ : ByteArray) ++ (⟨b.toArray⟩ : ByteArray) = ⟨(a ++ b).toArray⟩ := by
  apply ByteArray.ext
  rw [ByteArray.data_append]
  simp

theorem binStr_run {op : BinOp} {t : TypeId} {a b : List UInt8} {v : AVal} (h : binStr op a b = some v) (m : Plc) (w : World) :
    ∃ c, (Go.binOp op t (.string ⟨a.toArray⟩) (.string ⟨b.toArray⟩)).run P w = .ok c w ∧ ValRel m v c := by
  cases op <;> simp only [binStr, eqBytes_iff] at h
  case add =>
    split at h
    · rename_i hl
      cases h
      refine ⟨.string ⟨(a ++ b).toArray⟩, ?_, .str _⟩
      have h1 : ¬ (((a.length + b.length : Nat) : Int) > IntKind.i64.max) := by
        have : IntKind.i64.max = 9223372036854775807 := by decide
        rw [this]; omega
      have ha : (⟨a.toArray⟩ : ByteArray).size = a.length := by simp [ByteArray.size]
      have hb : (⟨b.toArray⟩ : ByteArray).size = b.length := by simp [ByteArray.size]
      simp only [Go.binOp, Op.stringOp, ha, hb, if_neg h1, mk_append]
      rfl
    · cases h
  all_goals first
    | (cases h; done)
    | (cases h; exact ⟨_, by simp only [Go.binOp, Op.stringOp, toList_mk]; rfl, .bool _⟩)

theorem eqPlain_run {t : TypeId} {x y : AVal} {b : Bool} (h : eqPlain P t x y = some b) {m : Plc} {c d : Value} (hc : ValRel m x c) (hd : ValRel m y d) (n : Nat) (w : World) :
    (Op.equalIn (n + 1) t c d).run P w = .ok b w := by
  unfold eqPlain at h
  split at h
  · rename_i hu
    split at h
    · cases h; rw [hc.bool_inv, hd.bool_inv]; exact run_equalIn_bool w n t _ _ hu
    · cases h
  · rename_i k hu
    split at h
    · split at h
      · rename_i hk; subst hk; cases h; rw [hc.int_inv, hd.int_inv]; exact run_equalIn_int w n t _ k _ _ hu
      · cases h
    · cases h
  · rename_i hu
    split at h
    · cases h; rw [hc.str_inv, hd.str_inv, run_equalIn_string w n t _ _ hu, toList_mk, toList_mk, eqBytes_iff]
    · cases h
  · cases h

theorem eqPlain_notAgg {t : TypeId} {x y : AVal} {b : Bool} (h : eqPlain P t x y = some b) (w : World) : (Go.isAgg t).run P w = .ok false w := by
  unfold eqPlain at h
  unfold Go.isAgg
  split at h <;> first
    | cases h
    | (rename_i hu; rw [Sem.run_bind, run_underlying hu]; rfl)
    | (rename_i k hu; rw [Sem.run_bind, run_underlying hu]; rfl)

theorem run_part_cell {t : TypeId} {w : World} (h : (Go.isAgg t).run P w = .ok false w) {cs : Array Value} {i : Nat} {c : Value} (hc : cs[i]? = some c) : (Go.part t cs i).run P w = .ok c w := by
  unfold Go.part
  rw [Sem.run_bind, h]
  simp [hc]

theorem eqFields_run (d : Nat) {m : Plc} {xs ys : Array Value} (w : World) : ∀ (fs : List Field) (n : Nat) (as bs : List AVal) (b : Bool), eqFields P fs n as bs = some b →
    (∀ (i : Nat) (v : AVal) (c : Value), as[i]? = some v → xs[n + i]? = some c → ValRel m v c) → (∀ (i : Nat) (v : AVal) (c : Value), bs[i]? = some v → ys[n + i]? = some c → ValRel m v c) →
    xs.size = n + as.length → ys.size = n + bs.length → (Op.eqFields (d + 1) xs ys fs).run P w = .ok b w
  | [], n, [], [], b, h, _, _, _, _ => by cases h; rfl
  | f :: fs, n, a :: as, b' :: bs, b, h, hx, hy, sx, sy => by
    simp only [eqFields] at h
    split at h
    · cases h
    · rename_i hf
      simp only [Bool.or_eq_false_iff, Bool.not_eq_false'] at hf
      obtain ⟨hname, hoff⟩ := hf
      have hoff := Nat.eq_of_beq_eq_true hoff
      have hn : f.name ≠ "_" := by simpa using hname
      obtain ⟨c, hc⟩ : ∃ c, xs[f.offset]? = some c := ⟨xs[n]'(by simp at sx; omega), by rw [hoff]; simp⟩
      obtain ⟨e, he⟩ : ∃ e, ys[f.offset]? = some e := ⟨ys[n]'(by simp at sy; omega), by rw [hoff]; simp⟩
      have rc := hx 0 a c (by simp) (by rw [← hoff]; simpa using hc)
      have re := hy 0 b' e (by simp) (by rw [← hoff]; simpa using he)
      have rec1 : ∀ b, eqFields P fs (n + 1) as bs = some b → (Op.eqFields (d + 1) xs ys fs).run P w = .ok b w := fun b hb =>
        eqFields_run d w fs (n + 1) as bs b hb (fun i v c h1 h2 => hx (i + 1) v c (by simpa using h1) (by rw [show n + (i + 1) = n + 1 + i by omega]; exact h2))
          (fun i v c h1 h2 => hy (i + 1) v c (by simpa using h1) (by rw [show n + (i + 1) = n + 1 + i by omega]; exact h2)) (by simp at sx; omega) (by simp at sy; omega)
      split at h
      · rename_i hq
        simp only [Op.eqFields, if_pos hn, Sem.run_bind, run_part_cell (eqPlain_notAgg hq w) hc, run_part_cell (eqPlain_notAgg hq w) he, Result.andThen_ok, eqPlain_run hq rc re d w, Bool.not_true, Bool.false_eq_true, if_false]
        exact rec1 b h
      · rename_i hq
        cases h
        simp only [Op.eqFields, if_pos hn, Sem.run_bind, run_part_cell (eqPlain_notAgg hq w) hc, run_part_cell (eqPlain_notAgg hq w) he, Result.andThen_ok, eqPlain_run hq rc re d w, Bool.not_false, if_true, Sem.run_pure]
      · cases h
  | [], _, [], _ :: _, _, h, _, _, _, _ => by cases h
  | [], _, _ :: _, _, _, h, _, _, _, _ => by cases h
  | _ :: _, _, [], _, _, h, _, _, _, _ => by cases h
  | _ :: _, _, _ :: _, [], _, h, _, _, _, _ => by cases h

theorem eqStruct_inv {t : TypeId} {fs : List Field} {x y : AVal} {b : Bool} (h : eqStruct P t fs x y = some b) :
    ∃ as bs, x = .agg as ∧ y = .agg bs ∧ P.stoodInHeld t = false ∧ P.eqGuardType P.depth t = false ∧ eqFields P fs 0 as bs = some b := by
  unfold eqStruct at h
  split at h
  · rename_i as bs
    split at h
    · cases h
    · rename_i hg
      simp only [Bool.or_eq_false_iff] at hg
      exact ⟨as, bs, rfl, rfl, hg.1, hg.2, h⟩
  · cases h

theorem equal_open (t : TypeId) (x y : Value) : Op.equal t x y = Op.equalIn (9999 + 1) t x y := rfl

theorem eqGuard_pointer (op : BinOp) (t : TypeId) (o1 o2 : Operand) (a : Option Addr) (d : Value) (w : World) : (eqGuard op t o1 o2 (.pointer a) d).run P w = .ok () w := by cases op <;> rfl
theorem eqGuard_slice (op : BinOp) (t : TypeId) (o1 o2 : Operand) (a : Option Addr) (n k : Nat) (d : Value) (w : World) : (eqGuard op t o1 o2 (.slice a n k) d).run P w = .ok () w := by cases op <;> rfl
theorem eqGuard_map (op : BinOp) (t : TypeId) (o1 o2 : Operand) (a : Option Nat) (d : Value) (w : World) : (eqGuard op t o1 o2 (.map a) d).run P w = .ok () w := by cases op <;> rfl
theorem eqGuard_nilFunc (op : BinOp) (t : TypeId) (o1 o2 : Operand) (d : Value) (w : World) : (eqGuard op t o1 o2 .nilFunc d).run P w = .ok () w := by cases op <;> rfl
theorem eqGuard_func (op : BinOp) (t : TypeId) (o1 o2 : Operand) (f : Fn) (x y : Array Value) (d : Value) (w : World) : (eqGuard op t o1 o2 (.func f x y) d).run P w = .ok () w := by cases op <;> rfl
theorem eqGuard_bool (op : BinOp) (t : TypeId) (o1 o2 : Operand) (b : Bool) (d : Value) (w : World) : (eqGuard op t o1 o2 (.bool b) d).run P w = .ok () w := by cases op <;> rfl

theorem eq_nil_left {t : TypeId} {w : World} :
    (∀ e, P.underlying t = some (.pointer e) → ∀ a, (Op.equal t (.pointer none) (.pointer a)).run P w = .ok a.isNone w) ∧
    (∀ e, P.underlying t = some (.pointer e) → ∀ a, (Op.equal t (.pointer a) (.pointer none)).run P w = .ok a.isNone w) ∧
    (∀ e, P.underlying t = some (.slice e) → ∀ a n k, (Op.equal t (.slice none 0 0) (.slice a n k)).run P w = .ok a.isNone w) ∧
    (∀ e, P.underlying t = some (.slice e) → ∀ a n k, (Op.equal t (.slice a n k) (.slice none 0 0)).run P w = .ok a.isNone w) ∧
    (∀ k e, P.underlying t = some (.map k e) → ∀ a, (Op.equal t (.map none) (.map a)).run P w = .ok a.isNone w) ∧
    (∀ k e, P.underlying t = some (.map k e) → ∀ a, (Op.equal t (.map a) (.map none)).run P w = .ok a.isNone w) ∧
    (∀ k e v, P.underlying t = some (.func k e v) → (Op.equal t .nilFunc .nilFunc).run P w = .ok true w) ∧
    (∀ k e v, P.underlying t = some (.func k e v) → ∀ f x y, (Op.equal t .nilFunc (.func f x y)).run P w = .ok false w) ∧
    (∀ k e v, P.underlying t = some (.func k e v) → ∀ f x y, (Op.equal t (.func f x y) .nilFunc).run P w = .ok false w) := by
  refine ⟨fun e hu a => ?_, fun e hu a => ?_, fun e hu a n k => ?_, fun e hu a n k => ?_, fun k e hu a => ?_, fun k e hu a => ?_, fun k e v hu => ?_, fun k e v hu f x y => ?_, fun k e v hu f x y => ?_⟩
  all_goals
    rw [equal_open]; unfold Op.equalIn; rw [Sem.run_bind, run_underlying hu]
    first | rfl | (cases a <;> rfl)

/-- '==' at a type, and what stands ahead of it. -/
structure EqRuns (P : Program) (t : TypeId) (c d : Value) (b : Bool) (w : World) : Prop where
  eq : (Go.binOp .eql t c d).run P w = .ok (.bool b) w
  ne : (Go.binOp .neq t c d).run P w = .ok (.bool !b) w
  guard : ∀ op (o1 o2 : Operand), (eqGuard op t o1 o2 c d).run P w = .ok () w

theorem eqRuns_of {t : TypeId} {c d : Value} {b : Bool} {w : World} (h : (Op.equal t c d).run P w = .ok b w) (h1 : Go.binOp .eql t c d = (do pure (.bool (← Op.equal t c d))))
    (h2 : Go.binOp .neq t c d = (do pure (.bool (!(← Op.equal t c d))))) (hg : ∀ op (o1 o2 : Operand), (eqGuard op t o1 o2 c d).run P w = .ok () w) : EqRuns P t c d b w :=
  ⟨by rw [h1, Sem.run_bind, h]; rfl, by rw [h2, Sem.run_bind, h]; rfl, hg⟩

theorem eqVal_run {t : TypeId} {x y : AVal} {b : Bool} (h : eqVal P t x y = some b) {m : Plc} {c d : Value} (hc : ValRel m x c) (hd : ValRel m y d) (w : World) : EqRuns P t c d b w := by
  obtain ⟨e1, e2, e3, e4, e5, e6, e7, e8, e9⟩ := @eq_nil_left P t w
  unfold eqVal at h
  split at h
  · rename_i fs hu
    obtain ⟨as, bs, rfl, rfl, hs, hg, he⟩ := eqStruct_inv h
    obtain ⟨xs, rfl, h1, h2⟩ := hc.agg_inv
    obtain ⟨ys, rfl, h3, h4⟩ := hd.agg_inv
    have hfs : P.fieldsOf t = fs := by simp [Program.fieldsOf, hu]
    refine eqRuns_of ?_ rfl rfl (fun op o1 o2 => run_eqGuard_agg w op t o1 o2 xs ys hg)
    rw [equal_open, run_equalIn_struct w 9999 t xs ys (by rw [hfs, hu]) hs, hfs]
    exact eqFields_run 9998 w fs.toList 0 as bs b he (fun i v c a b => h2.1 i v c a (by simpa using b)) (fun i v c a b => h4.1 i v c a (by simpa using b)) (by simpa using h1.symm) (by simpa using h3.symm)
  · rename_i e hu
    split at h <;> cases h
    · rw [hc.nilPtr_inv, hd.nilPtr_inv]; exact eqRuns_of (e1 e hu _) rfl rfl (fun op o1 o2 => eqGuard_pointer _ _ _ _ _ _ _)
    · obtain ⟨pl, _, _, rfl⟩ := hc.ptr_inv; rw [hd.nilPtr_inv]; exact eqRuns_of (e2 e hu _) rfl rfl (fun op o1 o2 => eqGuard_pointer _ _ _ _ _ _ _)
    · obtain ⟨pl, _, _, rfl⟩ := hd.ptr_inv; rw [hc.nilPtr_inv]; exact eqRuns_of (e1 e hu _) rfl rfl (fun op o1 o2 => eqGuard_pointer _ _ _ _ _ _ _)
  · rename_i e hu
    split at h <;> cases h
    · rw [hc.nilSlice_inv, hd.nilSlice_inv]; exact eqRuns_of (e3 e hu _ _ _) rfl rfl (fun op o1 o2 => eqGuard_slice _ _ _ _ _ _ _ _ _)
    · obtain ⟨pl, cc, _, _, _, _, _, _, _, _, rfl⟩ := hc.slice_inv; rw [hd.nilSlice_inv]; exact eqRuns_of (e4 e hu _ _ _) rfl rfl (fun op o1 o2 => eqGuard_slice _ _ _ _ _ _ _ _ _)
    · obtain ⟨pl, cc, _, _, _, _, _, _, _, _, rfl⟩ := hd.slice_inv; rw [hc.nilSlice_inv]; exact eqRuns_of (e3 e hu _ _ _) rfl rfl (fun op o1 o2 => eqGuard_slice _ _ _ _ _ _ _ _ _)
    · obtain ⟨a, n, rfl⟩ := hc.emptySl_inv; rw [hd.nilSlice_inv]; exact eqRuns_of (e4 e hu _ _ _) rfl rfl (fun op o1 o2 => eqGuard_slice _ _ _ _ _ _ _ _ _)
    · obtain ⟨a, n, rfl⟩ := hd.emptySl_inv; rw [hc.nilSlice_inv]; exact eqRuns_of (e3 e hu _ _ _) rfl rfl (fun op o1 o2 => eqGuard_slice _ _ _ _ _ _ _ _ _)
  · rename_i k e hu
    split at h <;> cases h
    · rw [hc.nilMap_inv, hd.nilMap_inv]; exact eqRuns_of (e5 k e hu _) rfl rfl (fun op o1 o2 => eqGuard_map _ _ _ _ _ _ _)
    · obtain ⟨pl, _, rfl⟩ := hc.map_inv; rw [hd.nilMap_inv]; exact eqRuns_of (e6 k e hu _) rfl rfl (fun op o1 o2 => eqGuard_map _ _ _ _ _ _ _)
    · obtain ⟨pl, _, rfl⟩ := hd.map_inv; rw [hc.nilMap_inv]; exact eqRuns_of (e5 k e hu _) rfl rfl (fun op o1 o2 => eqGuard_map _ _ _ _ _ _ _)
  · rename_i ps rs vr hu
    split at h <;> cases h
    · rw [hc.nilFunc_inv, hd.nilFunc_inv]; exact eqRuns_of (e7 _ _ _ hu) rfl rfl (fun op o1 o2 => eqGuard_nilFunc _ _ _ _ _ _)
    · obtain ⟨cs, rfl, _⟩ := hc.func_inv; rw [hd.nilFunc_inv]; exact eqRuns_of (e9 _ _ _ hu _ _ _) rfl rfl (fun op o1 o2 => eqGuard_func _ _ _ _ _ _ _ _ _)
    · obtain ⟨cs, rfl, _⟩ := hd.func_inv; rw [hc.nilFunc_inv]; exact eqRuns_of (e8 _ _ _ hu _ _ _) rfl rfl (fun op o1 o2 => eqGuard_nilFunc _ _ _ _ _ _)
  · rename_i hu
    split at h <;> cases h
    rw [hc.bool_inv, hd.bool_inv]; exact eqRuns_of (run_equal_bool w t _ _ hu) rfl rfl (fun op o1 o2 => eqGuard_bool _ _ _ _ _ _ _)
  · cases h

/-- The operator with its guard. -/
theorem binOp_run {op : BinOp} {t : TypeId} {x y v : AVal} (h : binOp P op t x y = some v) {m : Plc} {c d : Value} (hc : ValRel m x c) (hd : ValRel m y d) (o1 o2 : Operand) (w : World) :
    ∃ r, ((do eqGuard op t o1 o2 c d; Go.binOp op t c d) : Sem Value).run P w = .ok r w ∧ ValRel m v r := by
  unfold binOp at h
  split at h
  · rename_i k a k' b
    rw [hc.int_inv, hd.int_inv]
    have hg : (eqGuard op t o1 o2 (.int k a) (.int k' b)).run P w = .ok () w := by cases op <;> rfl
    rw [Sem.run_bind, hg, Result.andThen_ok]
    split at h
    · exact shiftInt_run h m w
    · exact shiftInt_run h m w
    · rename_i n1 n2
      split at h
      · rename_i hk; subst hk; exact binInt_run h ⟨n1, n2⟩ m w
      · cases h
  · rename_i a b
    rw [hc.str_inv, hd.str_inv]
    have hg : (eqGuard op t o1 o2 (.string ⟨a.toArray⟩) (.string ⟨b.toArray⟩)).run P w = .ok () w := by cases op <;> rfl
    rw [Sem.run_bind, hg, Result.andThen_ok]
    exact binStr_run h m w
  · split at h
    · simp only [Option.map_eq_some_iff] at h
      obtain ⟨b, hb, rfl⟩ := h
      have hr := eqVal_run (P := P) hb hc hd w
      rw [Sem.run_bind, hr.guard, Result.andThen_ok, hr.eq]
      exact ⟨_, rfl, .bool _⟩
    · simp only [Option.map_eq_some_iff] at h
      obtain ⟨b, hb, rfl⟩ := h
      have hr := eqVal_run (P := P) hb hc hd w
      rw [Sem.run_bind, hr.guard, Result.andThen_ok, hr.ne]
      exact ⟨_, rfl, .bool _⟩
    · cases h

theorem unOp_run {op : UnOp} {x v : AVal} (h : unOp op x = some v) {m : Plc} {c : Value} (hc : ValRel m x c) (w : World) :
    ∃ r, (Op.unary op c).run P w = .ok r w ∧ ValRel m v r := by
  unfold unOp at h
  split at h
  · cases h; rw [hc.bool_inv]; exact ⟨_, rfl, .bool _⟩
  · cases h; rw [hc.int_inv]; exact ⟨_, rfl, .int _ _⟩
  · rw [hc.int_inv]; cases h; exact ⟨_, rfl, .int _ _⟩
  · cases h

end
end Go.VE
