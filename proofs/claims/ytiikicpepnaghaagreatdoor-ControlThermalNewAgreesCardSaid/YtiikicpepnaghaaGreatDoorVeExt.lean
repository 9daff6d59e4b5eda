/-
  The abstract evaluator: functions without a body.
-/
import Derived.Test.YtiikicpepnaghaaGreatDoorVeAct3
import Derived.KernelRfl
import Derived.Lib.Bytealg
namespace Go.VE

def extSem : Ext → Array Value → Sem Value
  | .count => Extern.BytealgCount.count
  | .indexByte => Extern.BytealgIndexByte.indexByte

theorem find_count (p r : Array TypeId) (t : Array TypeId) : ((Extern.allGenericRows.lookup "internal/bytealg.CountString").map (· t p r) <|> (Extern.allTypedRows.lookup "internal/bytealg.CountString").map (· p r) <|> Extern.allRows.lookup "internal/bytealg.CountString") = some Extern.BytealgCount.count := by kernel_rfl
theorem find_index (p r : Array TypeId) (t : Array TypeId) : ((Extern.allGenericRows.lookup "internal/bytealg.IndexByteString").map (· t p r) <|> (Extern.allTypedRows.lookup "internal/bytealg.IndexByteString").map (· p r) <|> Extern.allRows.lookup "internal/bytealg.IndexByteString") = some Extern.BytealgIndexByte.indexByte := by kernel_rfl
theorem next_count (p r : Array TypeId) : ((Extern.allNextRows.lookup "internal/bytealg.CountString").map (· p r)) = none := by kernel_rfl
theorem next_index (p r : Array TypeId) : ((Extern.allNextRows.lookup "internal/bytealg.IndexByteString").map (· p r)) = none := by kernel_rfl
theorem next_none (p r : Array TypeId) : ((Extern.allNextRows.lookup "").map (· p r)) = none := by kernel_rfl

theorem extOf_inv {fn : Func} {x : Ext} (h : extOf fn = some x) : fn.body = none ∧ fn.name ≠ "runtime.NumGoroutine" ∧ Extern.findNext fn = none ∧ Extern.find fn = some (extSem x) := by
  unfold extOf at h
  split at h
  · cases h
  · rename_i hb
    split at h
    · rename_i ho
      have ho : fn.origin = "" := by simpa using ho
      unfold extNamed at h
      split at h
      · rename_i hn
        cases h
        have hn : fn.name = "internal/bytealg.CountString" := by simpa using hn
        refine ⟨hb, by rw [hn]; decide, ?_, ?_⟩
        · unfold Extern.findNext
          simp only [hn, ho, next_count, next_none]; rfl
        · unfold Extern.find
          simp only [hn, find_count]; rfl
      · split at h
        · rename_i hn
          cases h
          have hn : fn.name = "internal/bytealg.IndexByteString" := by simpa using hn
          refine ⟨hb, by rw [hn]; decide, ?_, ?_⟩
          · unfold Extern.findNext
            simp only [hn, ho, next_index, next_none]; rfl
          · unfold Extern.find
            simp only [hn, find_index]; rfl
        · cases h
    · cases h

theorem countB_eq (c : UInt8) : ∀ (l : List UInt8), countB c l = Go.Lib.countByte l c
  | [] => rfl
  | x :: xs => by
    unfold Go.Lib.countByte
    simp only [countB, List.count_cons, countB_eq c xs]
    by_cases h : x = c
    · subst h
      have : Nat.beq x.toNat x.toNat = true := Nat.beq_refl _
      rw [this]; simp [Go.Lib.countByte]
    · have : Nat.beq x.toNat c.toNat = false := by
        cases hb : Nat.beq x.toNat c.toNat with
        | false => rfl
        | true => exact absurd (UInt8.toNat_inj.1 (Nat.eq_of_beq_eq_true hb)) h
      rw [this]; simp [h, Go.Lib.countByte]

theorem indexB_eq (c : UInt8) : ∀ (l : List UInt8) (k : Nat), (match indexB c l k with | some i => (i : Int) | none => -1) = if Go.Lib.indexByte l c = -1 then -1 else Go.Lib.indexByte l c + k
  | [], k => rfl
  | x :: xs, k => by
    simp only [indexB, Go.Lib.indexByte]
    by_cases h : x = c
    · subst h
      have : Nat.beq x.toNat x.toNat = true := Nat.beq_refl _
      rw [this]; simp
    · have hb : Nat.beq x.toNat c.toNat = false := by
        cases hb : Nat.beq x.toNat c.toNat with
        | false => rfl
        | true => exact absurd (UInt8.toNat_inj.1 (Nat.eq_of_beq_eq_true hb)) h
      rw [hb]
      have h0 : (x == c) = false := by simpa using h
      have ih := indexB_eq c xs (k + 1)
      have hge := Go.Lib.indexByte_ge xs c
      simp only [h0, Bool.false_eq_true, if_false]
      rw [ih]
      by_cases h1 : Go.Lib.indexByte xs c = -1
      · simp [h1]
      · have h2 : (Go.Lib.indexByte xs c == -1) = false := by simpa using h1
        simp only [h2, Bool.false_eq_true, if_false, if_neg h1]
        rw [if_neg (by omega)]
        omega

theorem indexV_eq (c : UInt8) (l : List UInt8) : indexV (indexB c l 0) = .int .i64 (Go.Lib.indexByte l c) := by
  have h := indexB_eq c l 0
  unfold indexV
  cases hi : indexB c l 0 with
  | none =>
    rw [hi] at h
    simp only at h ⊢
    by_cases h1 : Go.Lib.indexByte l c = -1
    · rw [h1]
    · rw [if_neg h1] at h; rw [h]; simp
  | some i =>
    rw [hi] at h
    simp only at h ⊢
    by_cases h1 : Go.Lib.indexByte l c = -1
    · rw [if_pos h1] at h; rw [h1, ← h]
    · rw [if_neg h1] at h; rw [h]; simp

section
variable {P : Program} {m : Plc}

theorem extV_run {x : Ext} {args : List AVal} {v : AVal} (h : extV x args = some v) {cs : List Value} (ha : ArgsRel m args cs) (w : World) :
    ∃ c, (extSem x cs.toArray).run P w = .ok c w ∧ ValRel m v c := by
  unfold extV at h
  split at h
  · rename_i s n
    obtain ⟨hl, hr⟩ := ha
    match cs, hl, hr with
    | [a, b], _, hr =>
      have h1 := (hr 0 _ a rfl rfl).str_inv
      have h2 := (hr 1 _ b rfl rfl).int_inv
      subst h1 h2
      cases x with
      | count =>
        cases h
        have hrun := Go.Lib.run_countString (P := P) ⟨s.toArray⟩ n w
        exact ⟨_, hrun, by rw [countB_eq]; exact .int _ _⟩
      | indexByte =>
        cases h
        have hrun := Go.Lib.run_indexByteString (P := P) ⟨s.toArray⟩ n w
        exact ⟨_, hrun, by rw [indexV_eq]; exact .int _ _⟩
    | [], hl, _ => cases hl
    | [_], hl, _ => cases hl
    | _ :: _ :: _ :: _, hl, _ => cases hl
  · cases h

theorem ext_call {f : FuncId} {x : Ext} (hx : (P.funcs[f]?).bind extOf = some x) {args : List AVal} {v : AVal} (h : extV x args = some v) {cs : List Value} (ha : ArgsRel m args cs) (w : World) :
    ∃ c, (callFunc f cs.toArray).run P w = .ok (.value c) w ∧ ValRel m v c := by
  cases hf : P.funcs[f]? with
  | none => rw [hf] at hx; cases hx
  | some fn =>
    rw [hf] at hx
    obtain ⟨h1, h2, h3, h4⟩ := extOf_inv hx
    obtain ⟨c, h5, h6⟩ := extV_run (P := P) h ha w
    refine ⟨c, ?_, h6⟩
    rw [run_callFunc_extern hf (by simpa using h2) (by simp [h1]) h3 h4, h5]
    rfl

end
end Go.VE
