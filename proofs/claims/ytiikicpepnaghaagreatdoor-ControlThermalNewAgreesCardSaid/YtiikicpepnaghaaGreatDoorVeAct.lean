/-
  The abstract evaluator: operations that write memory.
-/
import Derived.Test.YtiikicpepnaghaaGreatDoorVeAlloc
namespace Go.VE

/-- What an operation hands on. -/
def NextRel (m : Plc) (v : AVal) : Next → Prop
  | .value c => ValRel m v c
  | .skip => v = .tuple []
  | _ => False

def Acts (P : Program) (m : Plc) (M : Mem) (w : World) (s : Sem Next) (v : AVal) (M' : Mem) : Prop :=
  ∃ m' nx w', s.run P w = .ok nx w' ∧ NextRel m' v nx ∧ MemRel m' M' w' ∧ Fr m M w m' M' w'

section
variable {P : Program} {m : Plc} {w : World} {M M' : Mem} {v : AVal}

/-! Stores -/

theorem evStore_sound (hM : MemRel m M w) {t : TypeId} {x u : AVal} (h : evStore P M t x u = .val v M') {c d : Value} (hc : ValRel m x c) (hd : ValRel m u d) :
    ∃ w', (Instr.storeAt t c d).run P w = .ok () w' ∧ v = .tuple [] ∧ MemRel m M' w' ∧ Fr m M w m M' w' := by
  unfold evStore at h
  split at h
  · rename_i a
    cases hs : storeVar P M t a u with
    | none => rw [hs] at h; cases h
    | some M1 =>
      rw [hs] at h
      cases h
      unfold storeVar at hs
      split at hs
      · rename_i hsol
        split at hs
        · rename_i n hn
          split at hs
          · rename_i hlen
            have hlen := Nat.eq_of_beq_eq_true hlen
            obtain ⟨pl, g1, g2, rfl⟩ := hc.ptr_inv
            have hrow := hd.row hsol
            obtain ⟨w', hr, h1, h2⟩ := storeCells_rel (P := P) hM hs g1 (cs := d.cells.toList) (by simpa using hrow) g2
            refine ⟨w', ?_, rfl, h1, h2⟩
            have hsz : ¬ (d.cells.size ≠ n) := by have := hrow.1; omega
            simp only [Instr.storeAt, Instr.sureAddr, Go.storeVar, Sem.run_bind, Sem.run_pure, Result.andThen_ok, size?_run hn, if_neg hsz, hr]
          · cases hs
        · cases hs
      · cases hs
  · cases h

/-! Maps -/

theorem MemRel.setMap (hM : MemRel m M w) {id : Nat} {es es' : List (AVal × AVal)} (hg : M.get id = some (.map es)) {pl : Pl} (hp : m id 0 = some pl) {ents ents' : Array MapEntry} {clock clock' : Nat}
    (hw : w.heap[pl.blk]? = some (.map ents clock)) (hr : PairsRel m es' ents'.toList) :
    MemRel m (M.set id (.map es')) { w with heap := w.heap.setIfInBounds pl.blk (.map ents' clock') } ∧ Fr m M w m (M.set id (.map es')) { w with heap := w.heap.setIfInBounds pl.blk (.map ents' clock') } := by
  obtain ⟨h1, h2⟩ := MapKept.heap_set (w := w) (o' := .map ents' clock') hw
  have hro : pl.ro = false := ((hM.block _ _ hg).2 pl hp).1
  constructor
  · refine ⟨fun i e q hq => ⟨(hM.dom i e q hq).1, by simpa using (hM.dom i e q hq).2⟩, hM.apart, ?_⟩
    intro i b hb
    rw [Mem.get_set] at hb
    split at hb
    · rename_i hi; subst hi; cases hb
      refine ⟨(hM.block _ _ hg).1, fun q hq => ?_⟩
      rw [hp] at hq; cases hq
      exact ⟨hro, ents', clock', h1, hr⟩
    · rename_i hi
      refine ⟨(hM.block i b hb).1, ?_⟩
      have hbl := (hM.block i b hb).2
      cases b with
      | cells cs ep lo =>
        refine ⟨hbl.1, fun e q he hq => ?_⟩
        obtain ⟨x, y, z⟩ := hbl.2 e q he hq
        exact ⟨x, y, z.mono (Plc.le_refl m) (h2 _ (fun hb => hi (hM.apart id 0 i e pl q hp hq hro hb.symm).symm))⟩
      | map es2 =>
        intro q hq
        obtain ⟨r, en, cl, x, y⟩ := hbl q hq
        exact ⟨r, en, cl, (h2 _ (fun hb => hi (hM.apart id 0 i 0 pl q hp hq hro hb.symm).symm)).trans x, y⟩
  · refine ⟨Plc.le_refl m, fun i _ hn => ⟨hn, ?_⟩, Nat.le_refl _, by simp, fun β _ hn => h2 β (fun hb => hn ⟨id, _, pl, hg, hp, hb.symm⟩), fun β hw => .inl (Wr.of_set (b' := .map es') hg rfl hw), rfl, rfl, rfl⟩
    rw [Mem.get_set, if_neg (fun hi => by subst hi; rw [hn] at hp; cases hp)]

theorem eqPlain_true {kt : TypeId} {x y : AVal} (h : eqPlain P kt x y = some true) {c d : Value} (hc : ValRel m x c) (hd : ValRel m y d) : c = d ∧ Instr.sameBits 10000 d c = true := by
  unfold eqPlain at h
  split at h
  · split at h
    · rename_i a b
      simp only [Option.some.injEq, beq_iff_eq] at h
      subst h
      rw [hc.bool_inv, hd.bool_inv]
      exact ⟨rfl, by simp [Instr.sameBits]⟩
    · cases h
  · split at h
    · rename_i j a k b
      split at h
      · rename_i hk
        simp only [Option.some.injEq, beq_iff_eq] at h
        subst hk h
        rw [hc.int_inv, hd.int_inv]
        exact ⟨rfl, by simp [Instr.sameBits]⟩
      · cases h
    · cases h
  · split at h
    · rename_i a b
      simp only [eqBytes_iff, Option.some.injEq, beq_iff_eq] at h
      subst h
      rw [hc.str_inv, hd.str_inv]
      refine ⟨rfl, ?_⟩
      simp only [Instr.sameBits]
      rw [beq_toListBytes, toList_mk]
      simp
    · cases h
  · cases h

theorem PairsRel.cons {p : AVal × AVal} {x : MapEntry} {es : List (AVal × AVal)} {cs : List MapEntry} (h1 : ValRel m p.1 x.key) (h2 : ValRel m p.2 x.val) (h3 : PairsRel m es cs) : PairsRel m (p :: es) (x :: cs) :=
  ⟨by simp [h3.1], fun i q c a b => by
    cases i with
    | zero => simp at a b; subst a b; exact ⟨h1, h2⟩
    | succ i => exact h3.2 i q c (by simpa using a) (by simpa using b)⟩

theorem PairsRel.nil : PairsRel m [] [] := ⟨rfl, fun i p c a _ => by simp at a⟩

theorem putKey_run {kt : TypeId} {ty : TypeDesc} (hu : P.underlying kt = some ty) {k u : AVal} {c d : Value} (hc : ValRel m k c) (hd : ValRel m u d) : ∀ (es es' : List (AVal × AVal)) (cs : List MapEntry) (i : Nat), putKey P kt k u es = some es' → PairsRel m es cs →
    (∃ j x, Instr.findNow ty c cs i = some (some (i + j, x.val)) ∧ cs[j]? = some x ∧ Instr.sameBits 10000 x.key c = true ∧ PairsRel m es' (cs.modify j fun e => { e with key := c, val := d })) ∨
    (Instr.findNow ty c cs i = some none ∧ ∀ born, PairsRel m es' (cs ++ [{ key := c, val := d, born := born }]))
  | [], es', [], i, h, _ => by
    cases h
    exact .inr ⟨rfl, fun born => PairsRel.cons hc hd PairsRel.nil⟩
  | [], _, x :: cs, _, _, hp => by have := hp.1; simp at this
  | p :: es, _, [], _, _, hp => by have := hp.1; simp at this
  | p :: es, es', x :: cs, i, h, hp => by
    obtain ⟨h1, h2, h3⟩ := hp.tail
    obtain ⟨k', v'⟩ := p
    simp only [putKey] at h
    split at h
    · rename_i hq
      cases h
      obtain ⟨ty', hu', hs⟩ := eqPlain_same (m := m) hq hc h1
      rw [hu] at hu'; cases hu'
      obtain ⟨_, hsb⟩ := eqPlain_true (m := m) hq hc h1
      exact .inl ⟨0, x, by simp [Instr.findNow, hs], rfl, hsb, by simp only [List.modify_zero_cons]; exact PairsRel.cons hc hd h3⟩
    · rename_i hq
      obtain ⟨ty', hu', hs⟩ := eqPlain_same (m := m) hq hc h1
      rw [hu] at hu'; cases hu'
      simp only [Option.map_eq_some_iff] at h
      obtain ⟨es2, he2, rfl⟩ := h
      rcases putKey_run hu hc hd es es2 cs (i + 1) he2 h3 with ⟨j, y, a1, a2, a3, a4⟩ | ⟨a1, a2⟩
      · exact .inl ⟨j + 1, y, by simp [Instr.findNow, hs, a1]; omega, by simpa using a2, a3, by simp only [List.modify_succ_cons]; exact PairsRel.cons h1 h2 a4⟩
      · exact .inr ⟨by simp [Instr.findNow, hs, a1], fun born => by simp only [List.cons_append]; exact PairsRel.cons h1 h2 (a2 born)⟩
    · cases h

theorem dropKey_run {kt : TypeId} {ty : TypeDesc} (hu : P.underlying kt = some ty) {k : AVal} {c : Value} (hc : ValRel m k c) : ∀ (es es' : List (AVal × AVal)) (cs : List MapEntry) (i : Nat), dropKey P kt k es = some es' → PairsRel m es cs →
    (∃ j x, Instr.findNow ty c cs i = some (some (i + j, x)) ∧ PairsRel m es' (cs.eraseIdx j) ∧ j < cs.length) ∨ (Instr.findNow ty c cs i = some none ∧ PairsRel m es' cs)
  | [], es', [], i, h, _ => by cases h; exact .inr ⟨rfl, PairsRel.nil⟩
  | [], _, x :: cs, _, _, hp => by have := hp.1; simp at this
  | p :: es, _, [], _, _, hp => by have := hp.1; simp at this
  | p :: es, es', x :: cs, i, h, hp => by
    obtain ⟨h1, h2, h3⟩ := hp.tail
    obtain ⟨k', v'⟩ := p
    simp only [dropKey] at h
    split at h
    · rename_i hq
      cases h
      obtain ⟨ty', hu', hs⟩ := eqPlain_same (m := m) hq hc h1
      rw [hu] at hu'; cases hu'
      exact .inl ⟨0, x.val, by simp [Instr.findNow, hs], by simpa using h3, by simp⟩
    · rename_i hq
      obtain ⟨ty', hu', hs⟩ := eqPlain_same (m := m) hq hc h1
      rw [hu] at hu'; cases hu'
      simp only [Option.map_eq_some_iff] at h
      obtain ⟨es2, he2, rfl⟩ := h
      rcases dropKey_run hu hc es es2 cs (i + 1) he2 h3 with ⟨j, y, a1, a2, a3⟩ | ⟨a1, a2⟩
      · exact .inl ⟨j + 1, y, by simp [Instr.findNow, hs, a1]; omega, by simp only [List.eraseIdx_cons_succ]; exact PairsRel.cons h1 h2 a2, by simpa using a3⟩
      · exact .inr ⟨by simp [Instr.findNow, hs, a1], PairsRel.cons h1 h2 a2⟩
    · cases h

theorem entriesOf_get {id : Nat} {es : List (AVal × AVal)} (h : entriesOf M id = some es) : M.get id = some (.map es) := by
  unfold entriesOf at h
  split at h
  · rename_i es' hg; cases h; exact hg
  · cases h

theorem evMapUpdate_sound (hM : MemRel m M w) {t : TypeId} {x k u : AVal} (h : evMapUpdate P M t x k u = .val v M') {c d f : Value} (hc : ValRel m x c) (hd : ValRel m k d) (hf : ValRel m u f) :
    ∃ w', (Instr.mapUpdate t c d f).run P w = .ok () w' ∧ v = .tuple [] ∧ MemRel m M' w' ∧ Fr m M w m M' w' := by
  unfold evMapUpdate at h
  split at h
  · rename_i kt et ht
    have hu := mapTypes_inv ht
    split at h
    · rename_i hpl
      obtain ⟨ty, hty⟩ := plainType_inv hpl
      split at h
      · rename_i id
        obtain ⟨pl, hp, rfl⟩ := hc.map_inv
        cases he : entriesOf M id with
        | none => rw [he] at h; cases h
        | some es =>
          rw [he] at h
          simp only [Option.bind_some] at h
          cases hq : putKey P kt k u es with
          | none => rw [hq] at h; cases h
          | some es' =>
            rw [hq] at h
            cases h
            obtain ⟨ents, clock, hw, hpairs⟩ := entriesOf_rel hM he hp
            rcases putKey_run hty hd hf es es' ents.toList 0 hq hpairs with ⟨j, y, a1, a2, a3, a4⟩ | ⟨a1, a2⟩
            · have hfind := MapKept.run_findKey (P := P) (w := w) hty a1
              obtain ⟨r1, r2⟩ := hM.setMap (entriesOf_get he) hp (clock' := clock) hw (ents' := ents.modify j fun e => { e with key := d, val := f }) (by rw [Array.toList_modify]; exact a4)
              refine ⟨_, ?_, rfl, r1, r2⟩
              have hj : ents[j]? = some y := by simpa using a2
              simp only [Nat.zero_add] at hfind
              unfold Instr.mapUpdate
              rw [Sem.run_bind, run_underlying hu, Result.andThen_ok]
              simp only [Sem.run_bind, MapKept.run_getObj_map hw, Result.andThen_ok, checkKey_plain hpl, hfind, hj, Option.map_some, Option.getD_some, Instr.keyThatStays, a3, if_true, Sem.run_pure, MapKept.run_setObj_map _ hw]
            · have hfind := MapKept.run_findKey (P := P) (w := w) hty a1
              obtain ⟨r1, r2⟩ := hM.setMap (entriesOf_get he) hp (clock' := clock + 1) hw (ents' := ents.push { key := d, val := f, born := clock }) (by rw [Array.toList_push]; exact a2 clock)
              refine ⟨_, ?_, rfl, r1, r2⟩
              unfold Instr.mapUpdate
              rw [Sem.run_bind, run_underlying hu, Result.andThen_ok]
              simp only [Sem.run_bind, MapKept.run_getObj_map hw, Result.andThen_ok, checkKey_plain hpl, hfind, MapKept.run_setObj_map _ hw]
      · cases h
    · cases h
  · cases h

end
end Go.VE
