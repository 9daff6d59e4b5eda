/-
  Calls with plain arguments and plain answers, as entries of the table of functions that are not walked.
-/
import Derived.Test.YtiikicpepnaghaaGreatDoorVeWords
namespace Go.VE
section
variable {P : Program}

open Classical in
noncomputable def gnd (P : Program) (L : Lib) (f : FuncId) : List AVal → Mem → Option (AVal × Mem) := fun args M =>
  if h : args.all AVal.plain = true ∧ ∃ v, v.plain = true ∧ ∃ M1, callW P L f args .empty = some (v, M1) then some (h.2.choose, M) else none

theorem gnd_entry (hp : progOk P = true) {L : Lib} (hL : LibOk P L) {f : FuncId} {fn : Func} (hf : P.funcs[f]? = some fn) (hb : fn.body.isSome = true) (hn : fn.name ≠ "runtime.NumGoroutine") : EntryOk P f (gnd P L f) := by
  refine ⟨⟨fn, hf, hb, hn⟩, ?_⟩
  intro args M v M' h
  unfold gnd at h
  split at h
  · rename_i hx
    cases h
    obtain ⟨hv, M1, hc⟩ := hx.2.choose_spec
    exact fun m w cs hM hA => ground (callW_ok hp hL) hc hx.1 hv m M w cs hM hA
  · cases h

/-- What such an entry answers. -/
theorem gnd_is {L : Lib} {f : FuncId} {args : List AVal} {v : AVal} {M1 : Mem} (ha : args.all AVal.plain = true) (hv : v.plain = true) (hc : callW P L f args .empty = some (v, M1)) (M : Mem) : gnd P L f args M = some (v, M) := by
  unfold gnd
  have hx : args.all AVal.plain = true ∧ ∃ v, v.plain = true ∧ ∃ M1, callW P L f args .empty = some (v, M1) := ⟨ha, v, hv, M1, hc⟩
  rw [dif_pos hx]
  obtain ⟨_, M2, h2⟩ := hx.2.choose_spec
  have h3 : v = hx.2.choose := by have := hc.symm.trans h2; simp only [Option.some.injEq, Prod.mk.injEq] at this; exact this.1
  rw [← h3]

/-- A closed call that answers 'true' by the evaluator over tries. -/
noncomputable def yes : List AVal → Mem → Option (AVal × Mem) := fun args M => match args with
  | [] => some (.bool true, M)
  | _ => none

def isTrue : Option (AVal × Mem) → Bool
  | some (.bool true, _) => true
  | _ => false

theorem isTrue_inv {r : Option (AVal × Mem)} (h : isTrue r = true) : ∃ M, r = some (.bool true, M) := by
  unfold isTrue at h
  split at h
  · exact ⟨_, rfl⟩
  · cases h

theorem yes_entry (hp : progOk P = true) {L : Lib} (hL : LibOk P L) {K n : Nat} {f : FuncId} (h : isTrue (evCall P L K n f [] .empty) = true) : EntryOk P f yes := by
  obtain ⟨M1, h1⟩ := isTrue_inv h
  have hok := evCall_sound hp hL K n
  refine ⟨(hok f [] .empty _ M1 h1).1, ?_⟩
  intro args M v M' hy
  unfold yes at hy
  split at hy
  · cases hy
    exact fun m w cs hM hA => ground hok h1 rfl rfl m M w cs hM hA
  · cases hy

end
end Go.VE
