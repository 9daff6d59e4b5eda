/-
  slices.AppendSeq of nil and an iterator over a slice that holds nothing: nil.
-/
import Derived.Test.YtiikicpepnaghaaGreatDoorVeLaw
import Derived.Shelf.SlIterI.Collect
set_option linter.unusedSimpArgs false
set_option linter.unusedVariables false
namespace Go.VE
open Go.RowKit Go.Shelf Go.Proofs Go.Maps

section
variable {P : Program} {ρ : Ren}

def emptyV : AVal → Bool
  | .nilSlice => true
  | .emptySl => true
  | .slice _ _ 0 _ _ => true
  | _ => false

noncomputable def seqLoad (M : Mem) (a : AAddr) : Option (AVal × Mem) :=
  match loadCells M a 1 with
  | some [v] => match emptyV v with
    | true => some (.nilSlice, M)
    | false => none
  | _ => none

/-- The entry: nil and such an iterator give nil. -/
noncomputable def seqNil (fsq : FuncId) : List AVal → Mem → Option (AVal × Mem) := fun args M => match args with
  | [.nilSlice, .func f [.ptr a]] => match Nat.beq f fsq with
    | true => seqLoad M a
    | false => none
  | _ => none

/-- Memory that only grew: the frame. -/
theorem Fr.of_below {m : Plc} {M : Mem} {w w' : World} (h : Below w.heap.size w w') : Fr m M w m M w' :=
  ⟨Plc.le_refl m, fun _ _ h => ⟨h, rfl⟩, Nat.le_refl _, h.size, fun β hβ _ => h.block β hβ, fun _ h => .inl h, h.os, h.tape, h.output⟩

theorem appendSeq_entry {call : Caller} (hcall : CallOk P call) (hlays : SlLaysZI.n11 P ρ) {fsq : FuncId} {fn : Func} {b : Code} (hf : P.funcs[fsq]? = some fn) (hb : fn.body = some b) (hn : (fn.name == "runtime.NumGoroutine") = false)
    {fa : FuncId} (hfa : fa = ρ.f 11) {fna : Func} (hfna : P.funcs[fa]? = some fna) (hba : fna.body.isSome = true) (hna : fna.name ≠ "runtime.NumGoroutine")
    (hrun : ∀ (M : Mem) (id off : Nat) (cs : List AVal) (v : AVal), (v = .nilSlice ∨ v = .emptySl) → M.get id = some (.cells cs 1 0) → cs[off]? = some v → call fsq [.undef, .ptr ⟨id, off, 0, off + 1⟩] M = some (.tuple [], M)) :
    EntryOk P fa (seqNil fsq) := by
  subst hfa
  refine ⟨⟨fna, hfna, hba, hna⟩, ?_⟩
  intro args M v M' h m w cs hM hA
  unfold seqNil at h
  split at h
  · rename_i f a
    split at h
    · rename_i hbq
      have hff := Nat.eq_of_beq_eq_true hbq
      subst hff
      unfold seqLoad at h
      split at h
      · rename_i v0 hv0
        split at h
        · rename_i hev
          cases h
          obtain ⟨hlen, hrel⟩ := hA
          match cs, hlen with
          | [c0, c1], _ =>
            have r0 := hrel 0 .nilSlice c0 rfl rfl
            have r1 := hrel 1 (.func f [.ptr a]) c1 rfl rfl
            rw [r0.nilSlice_inv]
            obtain ⟨lb, rfl, hl1, hl2⟩ := r1.func_inv
            match lb, hl1 with
            | ⟨[cp]⟩, _ =>
              have rp := hl2 0 (.ptr a) cp rfl rfl
              obtain ⟨pl, hp, hlim, rfl⟩ := rp.ptr_inv
              -- the box's cell
              obtain ⟨acs, ep, lo, hg, h1, h2, h3⟩ := loadCells_inv hv0
              obtain ⟨_, _, hblk⟩ := hM.block _ _ hg
              obtain ⟨_, _, hx, ccs, el, flo, fhi, hw, htot, _, hcell⟩ := hblk a.ep pl h1 hp
              have hxt := pl.le
              have hoff : a.off < acs.length := by omega
              have hav : acs[a.off]? = some v0 := by
                have : ((acs.drop a.off).take 1)[0]? = some v0 := by rw [← h3]; rfl
                rw [List.getElem?_take, if_pos (by omega), List.getElem?_drop] at this
                simpa using this
              have hcs : a.off < ccs.size := by omega
              have hcc : ccs[a.off]? = some ccs[a.off] := Array.getElem?_eq_getElem hcs
              obtain ⟨hvr, hone⟩ := hcell a.off v0 ccs[a.off] hlim.2 (by omega) hav hcc
              -- the same, seen as nil or empty
              obtain ⟨v2, hv2, hv2r⟩ : ∃ v2 : AVal, (v2 = .nilSlice ∨ v2 = .emptySl) ∧ ∀ m2, ValRel m2 v2 ccs[a.off] := by
                cases v0 with
                | nilSlice => exact ⟨.nilSlice, .inl rfl, fun m2 => by rw [hvr.nilSlice_inv]; exact .nilSlice⟩
                | emptySl => obtain ⟨c, k, hc⟩ := hvr.emptySl_inv; exact ⟨.emptySl, .inr rfl, fun m2 => by rw [hc]; exact .emptySl c k⟩
                | slice a' sz len cap ex =>
                  cases len with
                  | zero =>
                    obtain ⟨q, cc, _, _, _, _, _, _, _, _, hc⟩ := hvr.slice_inv
                    exact ⟨.emptySl, .inr rfl, fun m2 => by rw [hc]; exact .emptySl _ _⟩
                  | succ len => cases hev
                | _ => cases hev
              have hseq : SeqGives Fence.wide (2 - 1) P f #[.pointer (some ⟨pl.blk, a.off, none⟩)] encZ (fun ss => ss = []) 0 w := by
                intro l J W hW hJ _ h0
                refine callsIn_wide.2 ?_
                have hblt : pl.blk < w.heap.size := (hM.dom _ _ _ hp).2
                have hWb : W.heap[pl.blk]? = some (.cells ccs el (flo, fhi)) := (hW.block _ hblt).trans hw
                have hl := lay_block (memRel_empty W) RoM.none (b := pl.blk) (off := a.off) (n := 1) (vs := [v2]) hWb (by omega) rfl (fun i u c hu hc => by
                  cases i with
                  | zero => cases hu; rw [Nat.add_zero, hcc] at hc; cases hc; exact ⟨hv2r _, hone⟩
                  | succ i => cases hu)
                have hr := hrun (Mem.empty.alloc (.cells (List.replicate a.off .undef ++ [v2]) 1 0)) 0 a.off _ v2 hv2 (by rw [Mem.get_alloc, if_pos (show 0 = Mem.empty.next from rfl)]) (by rw [List.getElem?_append_right (by simp)]; simp)
                refine ((hcall f _ _ _ _ hr).2 _ W [.func (.yield l) #[] #[], .pointer (some ⟨pl.blk, a.off, none⟩)] hl.mem ⟨rfl, fun i u c hu hc => ?_⟩).mono ?_
                · match i, hu, hc with
                  | 0, hu, hc => cases hu; cases hc; exact .undef _
                  | 1, hu, hc =>
                    cases hu; cases hc
                    exact .ptr ⟨0, a.off, 0, a.off + 1⟩ ⟨pl.blk, a.off + 1, a.off + 1, Nat.le_refl _, true, a.off⟩ (Plc.add_at _ _ _) ⟨Nat.le_refl _, Nat.le_refl _⟩
                · rintro e W' ⟨m', c, rfl, _, _, hfr⟩
                  have hB := below_of_ro hl.ro hfr
                  exact ⟨⟨_, rfl⟩, [], rfl, hJ [] W W' none h0 ⟨hB.os, hB.tape, hB.output, hB.size, fun k hk _ => hB.block k hk⟩ (fun r e => by cases e)⟩
              have hap := AnyZI.appendSeq_in hlays Fence.wide 2 trivial rfl (Nat.le_refl 2) f #[.pointer (some ⟨pl.blk, a.off, none⟩)] trivial (enters_of hf hn hb) (fun ss => ss = []) 0 (Nat.zero_le _) (by simp) w hseq
              refine (callsIn_wide.1 hap).mono ?_
              rintro e w' ⟨v, ss, rfl, rfl, _, hnil, hB⟩
              rw [hnil.2 rfl]
              exact ⟨m, _, rfl, .nilSlice, hM.of_ext hB.size (fun β hβ => hB.block β hβ), Fr.of_below hB⟩
        · cases h
      · cases h
    · cases h
  · cases h

end
end Go.VE
