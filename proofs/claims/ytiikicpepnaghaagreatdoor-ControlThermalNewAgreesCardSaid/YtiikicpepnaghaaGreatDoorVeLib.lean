/-
  The abstract evaluator: what a call with plain arguments answers, it answers in every memory.
-/
import Derived.Test.YtiikicpepnaghaaGreatDoorVeDraw2
namespace Go.VE

/-- A value of one cell that holds no address. -/
def AVal.plain0 : AVal → Bool
  | .bool _ | .int _ _ | .str _ | .nilPtr | .nilSlice | .nilMap | .nilFunc | .nilIface => true
  | _ => false

def AVal.plain : AVal → Bool
  | .agg cs => cs.all AVal.plain0
  | .tuple cs => cs.all AVal.plain0
  | v => v.plain0

section
variable {P : Program} {m m' : Plc}

theorem plain0_rel {v : AVal} (hv : v.plain0 = true) {c : Value} (h : ValRel m v c) : ValRel m' v c := by
  cases v <;> try (cases hv; done)
  case bool b => rw [h.bool_inv]; exact .bool b
  case int k n => rw [h.int_inv]; exact .int k n
  case str s => rw [h.str_inv]; exact .str s
  case nilPtr => rw [h.nilPtr_inv]; exact .nilPtr
  case nilSlice => rw [h.nilSlice_inv]; exact .nilSlice
  case nilMap => rw [h.nilMap_inv]; exact .nilMap
  case nilFunc => rw [h.nilFunc_inv]; exact .nilFunc
  case nilIface => rw [h.nilIface_inv]; exact .nilIface

theorem plain_rel {v : AVal} (hv : v.plain = true) {c : Value} (h : ValRel m v c) : ValRel m' v c := by
  cases v with
  | agg cs =>
    obtain ⟨ccs, rfl, hl, hr, h1⟩ := h.agg_inv
    have hv : cs.all AVal.plain0 = true := hv
    rw [List.all_eq_true] at hv
    exact .agg cs ccs hl (fun i v c a b => plain0_rel (hv v (List.mem_of_getElem? a)) (hr i v c a b)) h1
  | tuple cs =>
    obtain ⟨ccs, rfl, hl, hr⟩ := h.tuple_inv
    have hv : cs.all AVal.plain0 = true := hv
    rw [List.all_eq_true] at hv
    exact .tuple cs ccs hl (fun i v c a b => plain0_rel (hv v (List.mem_of_getElem? a)) (hr i v c a b))
  | _ => exact plain0_rel (by simpa [AVal.plain] using hv) h

theorem plainArgs_rel {args : List AVal} (ha : args.all AVal.plain = true) {cs : List Value} (h : ArgsRel m args cs) : ArgsRel m' args cs := by
  rw [List.all_eq_true] at ha
  exact ⟨h.1, fun i v c a b => plain_rel (ha v (List.mem_of_getElem? a)) (h.2 i v c a b)⟩

/-- Memory that only grew. -/
theorem MemRel.of_ext {M : Mem} {w w' : World} (h : MemRel m M w) (hs : w.heap.size ≤ w'.heap.size) (hk : ∀ β, β < w.heap.size → w'.heap[β]? = w.heap[β]?) : MemRel m M w' where
  dom id e pl x := ⟨(h.dom id e pl x).1, Nat.lt_of_lt_of_le (h.dom id e pl x).2 hs⟩
  apart := h.apart
  block id b hb := by
    refine ⟨(h.block id b hb).1, ?_⟩
    have hbl := (h.block id b hb).2
    cases b with
    | cells cs ep lo =>
      refine ⟨hbl.1, fun e pl he hp => ?_⟩
      obtain ⟨x, y, z⟩ := hbl.2 e pl he hp
      exact ⟨x, y, z.mono (Plc.le_refl m) (hk _ (h.dom id e pl hp).2)⟩
    | map es =>
      intro pl hp
      obtain ⟨r, ents, clock, x, y⟩ := hbl pl hp
      exact ⟨r, ents, clock, (hk _ (h.dom id 0 pl hp).2).trans x, y⟩

/-- One entry of a table of functions. -/
def EntryOk (P : Program) (f : FuncId) (g : List AVal → Mem → Option (AVal × Mem)) : Prop :=
  (∃ fn, P.funcs[f]? = some fn ∧ fn.body.isSome = true ∧ fn.name ≠ "runtime.NumGoroutine") ∧
    ∀ args M v M', g args M = some (v, M') → ∀ m w cs, MemRel m M w → ArgsRel m args cs → Calls P f cs.toArray w fun e w' => ∃ m' c, e = .returned c ∧ ValRel m' v c ∧ MemRel m' M' w' ∧ Fr m M w m' M' w'

def Lib.none : Lib := fun _ => Option.none
def Lib.add (L : Lib) (f : FuncId) (g : List AVal → Mem → Option (AVal × Mem)) : Lib := fun f' => match Nat.beq f' f with
  | true => some g
  | false => L f'

theorem libOk_add {L : Lib} (hL : LibOk P L) {f : FuncId} {g : List AVal → Mem → Option (AVal × Mem)} (hg : EntryOk P f g) : LibOk P (L.add f g) := by
  intro f' g' h
  unfold Lib.add at h
  split at h
  · rename_i hb
    have : f' = f := Nat.eq_of_beq_eq_true hb
    subst this
    cases h
    exact hg
  · exact hL f' g' h

/-- A call with plain arguments and a plain answer, run in the empty memory, answers so in every memory. -/
theorem ground {call : Caller} (hcall : CallOk P call) {f : FuncId} {args : List AVal} {v : AVal} {M1 : Mem} (h : call f args .empty = some (v, M1)) (ha : args.all AVal.plain = true) (hv : v.plain = true) :
    ∀ m M w cs, MemRel m M w → ArgsRel m args cs → Calls P f cs.toArray w fun e w' => ∃ m' c, e = .returned c ∧ ValRel m' v c ∧ MemRel m' M w' ∧ Fr m M w m' M w' := by
  intro m M w cs hM hA
  have h0 := (hcall f args .empty v M1 h).2 (fun _ _ => Option.none) w cs (memRel_empty w) (plainArgs_rel ha hA)
  refine h0.mono ?_
  rintro e w' ⟨m1, c, rfl, h1, h2, h3⟩
  have hk : ∀ β, β < w.heap.size → w'.heap[β]? = w.heap[β]? := fun β hβ => h3.kept β hβ (fun ⟨_, _, _, _, hh, _⟩ => by cases hh)
  refine ⟨m, c, rfl, plain_rel hv h1, hM.of_ext h3.size hk, ⟨Plc.le_refl m, fun _ _ hn => ⟨hn, rfl⟩, Nat.le_refl _, h3.size, fun β hβ _ => hk β hβ, fun β hw => .inl hw, h3.os, h3.tape, h3.output⟩⟩

end
end Go.VE
