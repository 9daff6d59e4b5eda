/-
  From a walk by the evaluator to a law's row: the law answers 'true', what was there stays.
-/
import Derived.Test.YtiikicpepnaghaaGreatDoorVeGround
import Derived.ProofKit
import Derived.Lib.SmallJoins
namespace Go.VE
open Go.ChangeShapes Go.WideShapes Go.RowKit Go.ChangeAt Go.Lib

/-- All that was there stays, if the evaluator started without any of it. -/
theorem below_of_fr {w w' : World} {m' : Plc} {M' : Mem} (h : Fr (fun _ _ => none) .empty w m' M' w') : Below w.heap.size w w' :=
  ⟨h.os, h.tape, h.output, h.size, fun k hk => h.kept k hk (fun ⟨_, _, _, _, hh, _⟩ => by cases hh)⟩

section
variable {H : Type} {enc : TypeId × Value → H} {P : Program}

theorem trodAll_below (hl : laidOutB P = true) {W W' : World} (hB : Below W.heap.size W W') : ∀ {ts : List TypeId} {vs : List Value} {ds : List (DataW H)} {ps : List MemPlace}, (ts.all fun t => P.readableRec t && decide (t < P.types.size)) = true →
    (∀ p ∈ ps, p.block < W.heap.size) → DataW.TrodAll enc P W 0 (fun _ => true) true ts vs ds ps → DataW.TrodAll enc P W' 0 (fun b => decide (b < W.heap.size)) true ts vs ds ps
  | [], _, _, _, _, _, h => by
    obtain ⟨rfl, rfl, rfl⟩ := trodAll_nil h
    exact h
  | t :: ts, _, _, _, hr, hlt, h => by
    obtain ⟨v, vs, d, ds, a, b, rfl, rfl, rfl, h1, h2⟩ := trodAll_cons h
    simp only [List.all_cons, Bool.and_eq_true, decide_eq_true_eq] at hr
    refine ⟨a, b, Below.trod hl hr.1.1 hr.1.2 h1 hB (fun x hx => hlt x (List.mem_append.2 (.inl hx))), ?_, rfl⟩
    exact trodAll_below hl hB (by simpa using hr.2) (fun x hx => hlt x (List.mem_append.2 (.inr hx))) h2

theorem law_post {f : Func} {s : ChangeSpec} {apart fresh handsOn : Bool} {W W' : World} {args : Array Value} {ds : List (DataW H)} {before : List MemPlace} {tb : TypeId}
    (hW : DataW.Whole enc P f.params.toList s.vars apart W args.toList ds [] before) (hfn : s.fn H ds = { results := [.lit (.bool true)], args := ds }) (hv : s.vars = [])
    (ht : f.resultTypes = #[tb]) (htb : P.underlying tb = some .bool) (hl : laidOutB P = true) (hr : (f.params.toList.all fun t => P.readableRec t && decide (t < P.types.size)) = true) (hB : Below W.heap.size W W') :
    s.post enc P f apart fresh handsOn false W args (.bool true) W' := by
  have hlt := hW.lt
  have hW' := hW
  obtain ⟨p, q, hA, hV, rfl, _, _⟩ := hW
  rw [hv] at hV
  obtain ⟨_, rfl⟩ := trodVars_none hV
  simp only [List.append_nil] at hlt hW'
  refine ⟨ds, [], p, [], p, [], hW', ?_, ?_, ?_, hB.frame _, fun h => by cases h⟩
  · rw [List.append_nil, hfn, ht]
    exact trodAll_mk1 (shut_bool htb true)
  · rw [List.append_nil, hfn]
    exact trodAll_below hl hB hr hlt hA
  · rw [List.append_nil, hfn, hv]
    rfl

end
end Go.VE
