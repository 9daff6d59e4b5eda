/-
  The abstract evaluator: conversions, what reads memory.
-/
import Derived.Test.YtiikicpepnaghaaGreatDoorVeOps2
import Derived.Laws.BytesString
import Derived.MapKept
namespace Go.VE

section
variable {P : Program} {m : Plc} {w : World} {ρ : Operand → Value} {e : Env} {M M' : Mem} {o : Oper} {v : AVal}

/-! Loads -/

theorem run_loadCells_at (w : World) (b off : Nat) (cs : List Value) (h : ∀ (j : Nat) (c : Value), cs[j]? = some c → w.cell? ⟨b, off + j, none⟩ = some c) :
    (Go.loadCells ⟨b, off, none⟩ cs.length).run P w = .ok cs.toArray w :=
  run_loadCells_list (P := P) w ⟨b, off, none⟩ cs (fun j v hv => by
    have hadd : (⟨b, off, none⟩ : Addr).add j = ⟨b, off + j, none⟩ := by unfold Addr.add; split <;> simp_all
    rw [hadd]; exact h j v hv)

theorem loadVar_rel (hM : MemRel m M w) {t : TypeId} {a : AAddr} (h : loadVar P M t a = some v) {pl : Pl} (hp : m a.id a.ep = some pl) (hl : a.lim ≤ pl.ext ∧ pl.frm ≤ a.off) :
    ∃ c, (Go.loadVar t ⟨pl.blk, a.off, none⟩).run P w = .ok c w ∧ ValRel m v c := by
  unfold loadVar at h
  split at h
  · rename_i ha
    split at h
    · rename_i n hn
      simp only [Option.map_eq_some_iff] at h
      obtain ⟨vs, hvs, rfl⟩ := h
      obtain ⟨hlen, cs, hcl, hcell, hrow⟩ := loadCells_rel hM hvs hp hl
      refine ⟨.agg cs.toArray, ?_, hrow.agg⟩
      subst hcl
      simp [Go.loadVar, agg?_run ha, size?_run hn, run_loadCells_at w pl.blk a.off cs hcell]
    · cases h
  · rename_i ha
    split at h
    · rename_i u hu
      cases h
      obtain ⟨hlen, cs, hcl, hcell, hrow⟩ := loadCells_rel hM hu hp hl
      obtain ⟨c, hc, hv, _⟩ := hrow.at (i := 0) rfl
      have hc0 : cs[0]? = some c := by simpa using hc
      refine ⟨c, ?_, hv⟩
      have := hcell 0 c hc0
      simp only [Nat.add_zero] at this
      simp [Go.loadVar, agg?_run ha, Go.load, Sem.run, this]
    · cases h
  · cases h

theorem evLoad_sound (hM : MemRel m M w) {t : TypeId} {x : AVal} (h : evLoad P M t x = .val v M') {c : Value} (hc : ValRel m x c) : Pures P M M' m w (Instr.loadAt t c) v := by
  unfold evLoad at h
  split at h
  · rename_i a
    obtain ⟨h1, rfl⟩ := OpR.ofOpt_inv h
    obtain ⟨pl, g1, g2, rfl⟩ := hc.ptr_inv
    obtain ⟨d, hd, hv⟩ := loadVar_rel (P := P) hM h1 g1 g2
    exact ⟨rfl, d, by simp [Instr.loadAt, Instr.sureAddr, hd], hv⟩
  · cases h

/-! Conversions -/

theorem bytesOf_ints : ∀ {vs : List AVal} {l : List UInt8}, bytesOf vs = some l → ∃ ns : List Int, vs = ns.map (AVal.int .u8) ∧ l = ns.map fun n => UInt8.ofNat n.toNat
  | [], l, h => by cases h; exact ⟨[], rfl, rfl⟩
  | v :: vs, l, h => by
    cases v with
    | int k n =>
      cases k with
      | u8 =>
        simp only [bytesOf, Option.map_eq_some_iff] at h
        obtain ⟨l', h', rfl⟩ := h
        obtain ⟨ns, rfl, rfl⟩ := bytesOf_ints h'
        exact ⟨n :: ns, rfl, rfl⟩
      | _ => cases h
    | _ => cases h

theorem foldl_push (ns : List Int) : ∀ (acc : List UInt8), ns.foldl (fun (r : ByteArray) n => r.push (UInt8.ofNat n.toNat)) ⟨acc.toArray⟩ = ⟨(acc ++ ns.map fun n => UInt8.ofNat n.toNat).toArray⟩ := by
  induction ns with
  | nil => intro acc; simp
  | cons n ns ih =>
    intro acc
    simp only [List.foldl_cons, List.map_cons]
    have : (⟨acc.toArray⟩ : ByteArray).push (UInt8.ofNat n.toNat) = ⟨(acc ++ [UInt8.ofNat n.toNat]).toArray⟩ := by
      simp [ByteArray.push]
    rw [this, ih]
    simp

theorem evConvert_plain (hM : MemRel m M w) {src dst : TypeId} {x : AVal} (h : evConvert P M src dst x = .val v M') {c : Value} (hc : ValRel m x c) (hd : ∀ e, P.underlying dst ≠ some (.slice e)) :
    Pures P M M' m w (Go.convert src dst c) v := by
  unfold evConvert at h
  cases hs : P.underlying src with
  | none => rw [hs] at h; cases h
  | some sd =>
    rw [hs] at h
    simp only at h
    split at h
    · rename_i k hu
      split at h
      · cases h
        rw [hc.int_inv]
        refine ⟨rfl, _, ?_, .int _ _⟩
        unfold Go.convert
        rw [Sem.run_bind, run_underlying hs, Result.andThen_ok, Sem.run_bind, run_underlying hu, Result.andThen_ok]
        cases sd <;> rfl
      · cases h
    · rename_i hu
      unfold evToString at h
      split at h
      · cases h
        rw [hc.str_inv]
        refine ⟨rfl, _, ?_, .str _⟩
        unfold Go.convert
        rw [Sem.run_bind, run_underlying hs, Result.andThen_ok, Sem.run_bind, run_underlying hu, Result.andThen_ok]
        cases sd <;> rfl
      · split at h
        · rename_i et
          split at h
          · rename_i he
            split at h
            · cases h
              rw [hc.nilSlice_inv]
              refine ⟨rfl, .string ⟨([] : List UInt8).toArray⟩, ?_, .str _⟩
              unfold Go.convert
              rw [Sem.run_bind, run_underlying hs, Result.andThen_ok, Sem.run_bind, run_underlying hu, Result.andThen_ok]
              simp only [Sem.run_bind, run_underlying he, Result.andThen_ok]
              rfl
            · rename_i a sz n cap ex _
              split at h
              · rename_i hsz
                obtain ⟨pl, cc, g1, g2, g3, g4, g5, g6, g7, g8, rfl⟩ := hc.slice_inv
                cases hl : loadCells M a n with
                | none => rw [hl] at h; cases h
                | some vs =>
                  rw [hl] at h
                  obtain ⟨h1, rfl⟩ := OpR.ofOpt_inv h
                  simp only [Option.map_eq_some_iff] at h1
                  obtain ⟨l, hb, rfl⟩ := h1
                  obtain ⟨ns, rfl, rfl⟩ := bytesOf_ints hb
                  obtain ⟨hlen, cs, hcl, hcell, hrow⟩ := loadCells_rel hM hl g1 g2
                  have hcs : cs = ns.map (Value.int .u8) := by
                    apply List.ext_getElem?
                    intro i
                    by_cases hi : i < ns.length
                    · have hv : (ns.map (AVal.int .u8))[i]? = some (AVal.int .u8 ns[i]) := by simp [hi]
                      obtain ⟨c, hc, hv, _⟩ := hrow.at hv
                      rw [hv.int_inv] at hc
                      simp at hc
                      simp [hi, hc]
                    · have h1 : cs.length = ns.length := by simpa using hcl.trans hlen.symm
                      rw [List.getElem?_eq_none (by omega), List.getElem?_eq_none (by simp; omega)]
                  refine ⟨rfl, .string ⟨(ns.map fun n => UInt8.ofNat n.toNat).toArray⟩, ?_, .str _⟩
                  unfold Go.convert
                  rw [Sem.run_bind, run_underlying hs, Result.andThen_ok, Sem.run_bind, run_underlying hu, Result.andThen_ok]
                  simp only [Sem.run_bind, run_underlying he, Result.andThen_ok]
                  have hrun := run_loadCells_at (P := P) w pl.blk a.off cs hcell
                  rw [hcl, hcs] at hrun
                  rw [run_bytesToString w _ n cc ns hrun]
                  have := foldl_push ns []
                  simp only [List.nil_append] at this
                  rw [← this]
                  rfl
              · cases h
            · cases h
          · cases h
        · cases h
    · rename_i et hu
      exact absurd hu (hd et)
    · cases h

/-! Maps -/

theorem checkKey_plain {kt : TypeId} (h : plainType P kt = true) (b : Bool) (k : Value) (w : World) : (Instr.checkKey b 10000 kt k).run P w = .ok () w := by
  show (Instr.checkKey b (9999 + 1) kt k).run P w = _
  unfold plainType at h
  unfold Instr.checkKey
  split at h
  · rename_i hu; rw [Sem.run_bind, run_underlying hu]; cases k <;> rfl
  · rename_i n hu; rw [Sem.run_bind, run_underlying hu]; cases k <;> rfl
  · rename_i hu; rw [Sem.run_bind, run_underlying hu]; cases k <;> rfl
  · cases h

theorem eqPlain_same {kt : TypeId} {x y : AVal} {b : Bool} (h : eqPlain P kt x y = some b) {c d : Value} (hc : ValRel m x c) (hd : ValRel m y d) :
    ∃ ty, P.underlying kt = some ty ∧ Instr.sameNow ty c d = some b := by
  unfold eqPlain at h
  split at h
  · rename_i hu
    split at h <;> cases h
    rw [hc.bool_inv, hd.bool_inv]; exact ⟨_, hu, rfl⟩
  · rename_i k hu
    split at h
    · split at h <;> cases h
      rename_i hk; subst hk
      rw [hc.int_inv, hd.int_inv]; exact ⟨_, hu, by simp [Instr.sameNow]⟩
    · cases h
  · rename_i hu
    split at h <;> cases h
    rw [hc.str_inv, hd.str_inv]; exact ⟨_, hu, by simp only [Instr.sameNow, eqBytes_iff]; rw [beq_toListBytes, toList_mk, toList_mk]⟩
  · cases h

theorem PairsRel.tail {p : AVal × AVal} {es : List (AVal × AVal)} {x : MapEntry} {cs : List MapEntry} (h : PairsRel m (p :: es) (x :: cs)) : ValRel m p.1 x.key ∧ ValRel m p.2 x.val ∧ PairsRel m es cs :=
  ⟨(h.2 0 p x rfl rfl).1, (h.2 0 p x rfl rfl).2, by simpa using h.1, fun i q c a b => h.2 (i + 1) q c (by simpa using a) (by simpa using b)⟩

theorem findKey_run {kt : TypeId} {ty : TypeDesc} (hu : P.underlying kt = some ty) {k : AVal} {c : Value} (hc : ValRel m k c) : ∀ (es : List (AVal × AVal)) (cs : List MapEntry) (i : Nat) (r : Option AVal), findKey P kt k es = some r → PairsRel m es cs →
    ∃ q, Instr.findNow ty c cs i = some q ∧ (match r, q with
      | none, none => True
      | some v, some (_, d) => ValRel m v d
      | _, _ => False)
  | [], [], i, r, h, _ => by cases h; exact ⟨none, rfl, trivial⟩
  | [], x :: cs, _, _, _, hp => by have := hp.1; simp at this
  | p :: es, [], _, _, _, hp => by have := hp.1; simp at this
  | p :: es, x :: cs, i, r, h, hp => by
    obtain ⟨h1, h2, h3⟩ := hp.tail
    obtain ⟨k', v'⟩ := p
    simp only [findKey] at h
    split at h
    · rename_i hq
      cases h
      obtain ⟨ty', hu', hs⟩ := eqPlain_same (m := m) hq hc h1
      rw [hu] at hu'; cases hu'
      exact ⟨some (i, x.val), by simp [Instr.findNow, hs], h2⟩
    · rename_i hq
      obtain ⟨ty', hu', hs⟩ := eqPlain_same (m := m) hq hc h1
      rw [hu] at hu'; cases hu'
      obtain ⟨q, hq1, hq2⟩ := findKey_run hu hc es cs (i + 1) r h h3
      exact ⟨q, by simp [Instr.findNow, hs, hq1], hq2⟩
    · cases h

theorem plainType_inv {kt : TypeId} (h : plainType P kt = true) : ∃ ty, P.underlying kt = some ty := by
  unfold plainType at h
  cases hu : P.underlying kt with
  | none => rw [hu] at h; cases h
  | some ty => exact ⟨ty, rfl⟩

theorem entriesOf_rel (hM : MemRel m M w) {id : Nat} {es : List (AVal × AVal)} (h : entriesOf M id = some es) {pl : Pl} (hp : m id 0 = some pl) :
    ∃ ents clock, w.heap[pl.blk]? = some (.map ents clock) ∧ PairsRel m es ents.toList := by
  unfold entriesOf at h
  split at h
  · rename_i es' hg
    cases h
    exact ((hM.block _ _ hg).2 pl hp).2
  · cases h

theorem pairRel_found {ok : Bool} {x : AVal} {c : Value} (b : Bool) (h : ValRel m x c) : ValRel m (if ok then .tuple [x, .bool b] else x) (if ok then .tuple #[c, .bool b] else c) := by
  cases ok with
  | false => exact h
  | true =>
    refine .tuple _ _ rfl (fun i u d hu hd => ?_)
    match i, hu, hd with
    | 0, hu, hd => simp at hu hd; subst hu hd; exact h
    | 1, hu, hd => simp at hu hd; subst hu hd; exact .bool _
    | i + 2, hu, _ => simp at hu

theorem evLookup_sound (hM : MemRel m M w) {t : TypeId} {x k : AVal} {ok : Bool} (h : evLookup P M t x k ok = .val v M') {c d : Value} (hc : ValRel m x c) (hd : ValRel m k d) :
    Pures P M M' m w (Instr.lookup t c d ok) v := by
  unfold evLookup at h
  split at h
  · rename_i kt et ht
    have hu := mapTypes_inv ht
    split at h
    · rename_i hpl
      obtain ⟨ty, hty⟩ := plainType_inv hpl
      split at h
      · rename_i z hz
        unfold evLookupZ at h
        split at h
        · rw [hc.nilMap_inv]
          cases h
          refine ⟨rfl, if ok then .tuple #[z, .bool false] else z, ?_, pairRel_found _ (ofVal_rel m z)⟩
          simp [Instr.lookup, run_underlying hu, checkKey_plain hpl, Instr.findKey, run_underlying hty, Instr.findNow, zero?_run hz]
        · rename_i id
          obtain ⟨pl, hp, rfl⟩ := hc.map_inv
          cases he : entriesOf M id with
          | none => rw [he] at h; cases h
          | some es =>
            rw [he] at h
            simp only [Option.bind_some] at h
            obtain ⟨ents, clock, hw, hpairs⟩ := entriesOf_rel hM he hp
            cases hf : findKey P kt k es with
            | none => rw [hf] at h; cases h
            | some r =>
              rw [hf] at h
              obtain ⟨q, hq, hqr⟩ := findKey_run hty hd es ents.toList 0 r hf hpairs
              have hfind := MapKept.run_findKey (P := P) (w := w) hty hq
              cases r with
              | none =>
                cases q with
                | some p => cases hqr
                | none =>
                  cases h
                  refine ⟨rfl, if ok then .tuple #[z, .bool false] else z, ?_, pairRel_found _ (ofVal_rel m z)⟩
                  simp [Instr.lookup, run_underlying hu, MapKept.run_getObj_map hw, checkKey_plain hpl, hfind, zero?_run hz]
              | some u =>
                cases q with
                | none => cases hqr
                | some p =>
                  obtain ⟨j, dv⟩ := p
                  cases h
                  refine ⟨rfl, if ok then .tuple #[dv, .bool true] else dv, ?_, pairRel_found _ hqr⟩
                  simp [Instr.lookup, run_underlying hu, MapKept.run_getObj_map hw, checkKey_plain hpl, hfind]
        · cases h
      · cases h
    · cases h
  · cases h

/-! len, cap, min, max -/

theorem lenV_rel (hM : MemRel m M w) {t : TypeId} {ty : TypeId} {x : AVal} (h : lenV P M (P.underlying t) x = some v) {c : Value} (hc : ValRel m x c) :
    ∃ r, (Builtin.len_ #[t] ty #[c]).run P w = .ok r w ∧ ValRel m v r := by
  unfold lenV at h
  split at h
  · rename_i hu
    split at h <;> cases h
    rename_i s
    rw [hc.str_inv]
    have hsz : (⟨s.toArray⟩ : ByteArray).size = s.length := by simp [ByteArray.size]
    exact ⟨.int .i64 s.length, by simp [Builtin.len_, run_underlying hu, hsz]; rfl, .int _ _⟩
  · rename_i et hu
    split at h <;> cases h
    · rw [hc.nilSlice_inv]; exact ⟨_, by simp [Builtin.len_, run_underlying hu]; rfl, .int _ _⟩
    · obtain ⟨a, n, rfl⟩ := hc.emptySl_inv; exact ⟨_, by simp [Builtin.len_, run_underlying hu]; rfl, .int _ _⟩
    · obtain ⟨pl, cc, _, _, _, _, _, _, _, _, rfl⟩ := hc.slice_inv; exact ⟨_, by simp [Builtin.len_, run_underlying hu]; rfl, .int _ _⟩
  · rename_i n et hu
    cases h
    exact ⟨_, by simp [Builtin.len_, run_underlying hu]; rfl, .int _ _⟩
  · rename_i t' hu
    split at h <;> cases h
    rename_i n et hu'
    exact ⟨_, by simp [Builtin.len_, run_underlying hu, run_underlying hu']; rfl, .int _ _⟩
  · rename_i k et hu
    split at h
    · cases h; rw [hc.nilMap_inv]; exact ⟨_, by simp [Builtin.len_, run_underlying hu]; rfl, .int _ _⟩
    · rename_i id
      simp only [Option.map_eq_some_iff] at h
      obtain ⟨es, he, rfl⟩ := h
      obtain ⟨pl, hp, rfl⟩ := hc.map_inv
      obtain ⟨ents, clock, hw, hpairs⟩ := entriesOf_rel hM he hp
      have hl : es.length = ents.size := by simpa using hpairs.1
      exact ⟨.int .i64 es.length, by simp [Builtin.len_, run_underlying hu, MapKept.run_getObj_map hw, hl]; rfl, .int _ _⟩
    · cases h
  · cases h

theorem capV_rel {t : TypeId} {ty : TypeId} {x : AVal} (h : capV (P.underlying t) x = some v) {c : Value} (hc : ValRel m x c) :
    ∃ r, (Builtin.cap_ #[t] ty #[c]).run P w = .ok r w ∧ ValRel m v r := by
  unfold capV at h
  split at h
  · rename_i et hu
    split at h <;> cases h
    · rw [hc.nilSlice_inv]; exact ⟨_, by simp [Builtin.cap_, run_underlying hu]; rfl, .int _ _⟩
    · obtain ⟨pl, cc, _, _, _, _, g5, _, _, _, rfl⟩ := hc.slice_inv
      have := g5 rfl
      subst this
      exact ⟨_, by simp [Builtin.cap_, run_underlying hu]; rfl, .int _ _⟩
  · cases h

theorem minInt_rel {k : IntKind} : ∀ (l : List AVal) (cs : List Value) (x : Int), minInt k x l = some v → l.length = cs.length → (∀ (i : Nat) (u : AVal) (c : Value), l[i]? = some u → cs[i]? = some c → ValRel m u c) →
    ∃ r, (cs.foldlM Builtin.min2 (.int k x)).run P w = .ok r w ∧ ValRel m v r
  | [], [], x, h, _, _ => by cases h; exact ⟨_, rfl, .int _ _⟩
  | u :: l, c :: cs, x, h, hl, hr => by
    cases u with
    | int k' y =>
      simp only [minInt] at h
      split at h
      · rename_i hk; subst hk
        have := hr 0 (.int k y) c rfl rfl
        rw [this.int_inv]
        obtain ⟨r, h1, h2⟩ := minInt_rel l cs _ h (by simpa using hl) (fun i u c a b => hr (i + 1) u c (by simpa using a) (by simpa using b))
        exact ⟨r, by rw [List.foldlM_cons, Sem.run_bind]; exact h1, h2⟩
      · cases h
    | _ => cases h
  | [], _ :: _, _, _, hl, _ => by cases hl
  | _ :: _, [], _, _, hl, _ => by cases hl

theorem maxInt_rel {k : IntKind} : ∀ (l : List AVal) (cs : List Value) (x : Int), maxInt k x l = some v → l.length = cs.length → (∀ (i : Nat) (u : AVal) (c : Value), l[i]? = some u → cs[i]? = some c → ValRel m u c) →
    ∃ r, (cs.foldlM Builtin.max2 (.int k x)).run P w = .ok r w ∧ ValRel m v r
  | [], [], x, h, _, _ => by cases h; exact ⟨_, rfl, .int _ _⟩
  | u :: l, c :: cs, x, h, hl, hr => by
    cases u with
    | int k' y =>
      simp only [maxInt] at h
      split at h
      · rename_i hk; subst hk
        have := hr 0 (.int k y) c rfl rfl
        rw [this.int_inv]
        obtain ⟨r, h1, h2⟩ := maxInt_rel l cs _ h (by simpa using hl) (fun i u c a b => hr (i + 1) u c (by simpa using a) (by simpa using b))
        exact ⟨r, by rw [List.foldlM_cons, Sem.run_bind]; exact h1, h2⟩
      · cases h
    | _ => cases h
  | [], _ :: _, _, _, hl, _ => by cases hl
  | _ :: _, [], _, _, hl, _ => by cases hl

end
end Go.VE
