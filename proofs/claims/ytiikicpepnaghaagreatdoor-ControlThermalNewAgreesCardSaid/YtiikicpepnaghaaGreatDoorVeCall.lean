/-
  The abstract evaluator: calls.
-/
import Derived.Test.YtiikicpepnaghaaGreatDoorVeCode
namespace Go.VE

section
variable {P : Program}

def oneResult (tmps : Array Value) : ResultVar → Sem Value
  | .tmp t => pure (tmps.getD t Go.undef)
  | .cell x t => do Go.loadVar t (← asAddr (tmps.getD x Go.undef))

theorem results_eq (fn : Func) (tmps : Array Value) : Go.results fn tmps = (do let vs ← fn.results.mapM (oneResult tmps); pure (if h : vs.size = 1 then vs[0] else .tuple vs)) := by
  unfold Go.results
  congr 1

theorem resultV_run {m : Plc} {e : Env} {M : Mem} {a : Act} {w : World} (he : EnvRel m e a) (hM : MemRel m M w) {r : ResultVar} {v : AVal} (h : resultV P e M r = some v) :
    ∃ c, (oneResult a.tmps r).run P w = .ok c w ∧ ValRel m v c := by
  cases r with
  | tmp t => cases h; exact ⟨_, rfl, he t⟩
  | cell x t =>
    unfold resultV at h
    simp only at h
    split at h
    · rename_i b heq
      have hx := he x
      rw [heq] at hx
      obtain ⟨pl, g1, g2, hc⟩ := hx.ptr_inv
      obtain ⟨c, h1, h2⟩ := loadVar_rel (P := P) hM h g1 g2
      refine ⟨c, ?_, h2⟩
      simp only [oneResult, hc, asAddr, Sem.run_bind, Sem.run_pure, Result.andThen_ok, h1]
    · cases h

theorem resultsV_run {m : Plc} {e : Env} {M : Mem} {a : Act} {w : World} (he : EnvRel m e a) (hM : MemRel m M w) : ∀ (rs : List ResultVar) (vs : List AVal), resultsV P e M rs = some vs →
    ∃ cs : List Value, (rs.mapM (oneResult a.tmps)).run P w = .ok cs w ∧ ArgsRel m vs cs
  | [], vs, h => by cases h; exact ⟨[], by simp, rfl, fun i v c hv _ => by simp at hv⟩
  | r :: rs, vs, h => by
    simp only [resultsV] at h
    cases hr : resultV P e M r with
    | none => rw [hr] at h; cases h
    | some v =>
      rw [hr] at h
      simp only [Option.map_eq_some_iff] at h
      obtain ⟨us, hus, rfl⟩ := h
      obtain ⟨c, h1, h2⟩ := resultV_run he hM hr
      obtain ⟨cs, h3, h4⟩ := resultsV_run he hM rs us hus
      refine ⟨c :: cs, ?_, by simp [h4.1], fun i u d hu hd => ?_⟩
      · rw [List.mapM_cons, Sem.run_bind, h1, Result.andThen_ok, Sem.run_bind, h3]
        rfl
      · cases i with
        | zero => simp at hu hd; subst hu hd; exact h2
        | succ i => exact h4.2 i u d (by simpa using hu) (by simpa using hd)

theorem results_run {m : Plc} {e : Env} {M : Mem} {a : Act} {w : World} (he : EnvRel m e a) (hM : MemRel m M w) {fn : Func} {v : AVal} (h : results P fn e M = some v) :
    ∃ c, (Go.results fn a.tmps).run P w = .ok c w ∧ ValRel m v c := by
  unfold results at h
  simp only [Option.map_eq_some_iff] at h
  obtain ⟨vs, hvs, rfl⟩ := h
  obtain ⟨cs, h1, h2⟩ := resultsV_run he hM _ _ hvs
  have hrun : (Go.results fn a.tmps).run P w = .ok (if h : cs.toArray.size = 1 then cs.toArray[0] else .tuple cs.toArray) w := by
    rw [results_eq, Array.mapM_eq_mapM_toList, Sem.run_bind, map_eq_pure_bind, Sem.run_bind, h1]
    rfl
  refine ⟨_, hrun, ?_⟩
  obtain ⟨hl, hr⟩ := h2
  match vs, cs, hl, hr with
  | [v], [c], hl, hr => exact hr 0 v c rfl rfl
  | [], [], hl, hr => exact .tuple [] #[] rfl (fun i v c a _ => by simp at a)
  | v :: u :: vs, c :: d :: cs, hl, hr =>
    rw [dif_neg (by simp)]
    exact .tuple _ _ (by simpa using hl) (fun i v c a b => hr i v c a (by simpa using b))

/-- What the table of functions that are not walked owes. -/
def LibOk (P : Program) (L : Lib) : Prop :=
  ∀ f g, L f = some g → (∃ fn, P.funcs[f]? = some fn ∧ fn.body.isSome = true ∧ fn.name ≠ "runtime.NumGoroutine") ∧
    ∀ args M v M', g args M = some (v, M') → ∀ m w cs, MemRel m M w → ArgsRel m args cs → Calls P f cs.toArray w fun e w' => ∃ m' c, e = .returned c ∧ ValRel m' v c ∧ MemRel m' M' w' ∧ Fr m M w m' M' w'

theorem libOk_none : LibOk P (fun _ => none) := fun _ _ h => by cases h

theorem progOk_fn (h : progOk P = true) {f : FuncId} {fn : Func} (hf : P.funcs[f]? = some fn) : fnOk P fn = true := by
  unfold progOk at h
  simp only [Bool.and_eq_true, List.all_eq_true] at h
  exact h.2 fn (by rw [← Array.getElem?_toList] at hf; exact List.mem_of_getElem? hf)

theorem evCall_succ (L : Lib) (K n : Nat) (f : FuncId) (args : List AVal) (M : Mem) : evCall P L K (n + 1) f args M = stepCall P L K (evCall P L K n) f args M := rfl

theorem endOut_inv {fn : Func} {r : Out} {v : AVal} {M' : Mem} (h : endOut P fn r = some (v, M')) : ∃ ex e, (ex = .normal ∨ ex = .ret) ∧ OutIs r ex e M' ∧ results P fn e M' = some v ∧ (∀ ex' e' M'', OutIs r ex' e' M'' → ex' = ex ∧ e' = e ∧ M'' = M') := by
  unfold endOut at h
  split at h
  · rename_i e M
    simp only [Option.map_eq_some_iff, Prod.mk.injEq] at h
    obtain ⟨u, hu, rfl, rfl⟩ := h
    refine ⟨.normal, e, .inl rfl, ⟨rfl, rfl⟩, hu, fun ex' e' M'' ho => ?_⟩
    cases ex' <;> first | exact absurd ho (fun h => h) | exact ⟨rfl, ho.1, ho.2⟩
  · rename_i e M
    simp only [Option.map_eq_some_iff, Prod.mk.injEq] at h
    obtain ⟨u, hu, rfl, rfl⟩ := h
    refine ⟨.ret, e, .inr rfl, ⟨rfl, rfl⟩, hu, fun ex' e' M'' ho => ?_⟩
    cases ex' <;> first | exact absurd ho (fun h => h) | exact ⟨rfl, ho.1, ho.2⟩
  · cases h

theorem envRel_args {m : Plc} {args : List AVal} {cs : List Value} (h : ArgsRel m args cs) (N : Nat) : EnvRel m (Env.ofArgs args 0 .leaf) { tmps := cs.toArray ++ Array.replicate (N - cs.toArray.size) Go.undef, defers := [] } := by
  intro t
  rw [Env.at_ofArgs]
  by_cases ht : t < args.length
  · rw [if_pos (by omega), Nat.sub_zero]
    have hv : args[t]? = some args[t] := by simp [ht]
    have hc : cs[t]? = some (cs[t]'(by rw [← h.1]; exact ht)) := by simp
    rw [hv, Option.getD_some]
    have : (cs.toArray ++ Array.replicate (N - cs.toArray.size) Go.undef).getD t Go.undef = cs[t]'(by rw [← h.1]; exact ht) := by
      rw [Array.getD_eq_getD_getElem?, Array.getElem?_append_left (by simp [← h.1]; exact ht)]
      simp [hc]
    show ValRel m args[t] ((cs.toArray ++ Array.replicate (N - cs.toArray.size) Go.undef).getD t Go.undef)
    rw [this]
    exact h.2 t _ _ hv hc
  · rw [if_neg (by omega)]
    rw [Env.at_leaf]
    exact .undef _

theorem runFunc_calls (hdraw : DrawSound P) (hp : progOk P = true) {K : Nat} {call : Caller} (hcall : CallOk P call) {f : FuncId} {args : List AVal} {M : Mem} {v : AVal} {M' : Mem} (h : runFunc P K call f args M = some (v, M')) :
    (∃ fn, P.funcs[f]? = some fn ∧ fn.body.isSome = true ∧ fn.name ≠ "runtime.NumGoroutine") ∧
    ∀ m w cs, MemRel m M w → ArgsRel m args cs → Calls P f cs.toArray w fun e w' => ∃ m' c, e = .returned c ∧ ValRel m' v c ∧ MemRel m' M' w' ∧ Fr m M w m' M' w' := by
  unfold runFunc at h
  split at h
  · rename_i fn hf
    split at h
    · rename_i c hb
      have hok := progOk_fn hp hf
      unfold fnOk at hok
      rw [hb] at hok
      simp only [Bool.and_eq_true, bne_iff_ne] at hok
      refine ⟨⟨fn, hf, by rw [hb]; rfl, hok.1⟩, fun m w cs hM hargs => ?_⟩
      obtain ⟨ex, e, hex, ho, hres, huniq⟩ := endOut_inv h
      refine calls_of_wp hf hb ?_
      have hnf : evCode P call K c (Env.ofArgs args 0 .leaf) M ≠ .fail := by
        intro hfail
        rw [hfail] at ho
        cases ex <;> exact ho
      refine (evCode_wp hdraw hcall K).1 c hok.2 _ m (Env.ofArgs args 0 .leaf) M _ w _ ⟨envRel_args hargs fn.ntmps, hM, by simp; omega, rfl⟩ rfl hnf ?_
      intro ex' e' M'' ho' m' a' w' hs' hf'
      obtain ⟨rfl, rfl, rfl⟩ := huniq ex' e' M'' ho'
      obtain ⟨cv, hr, hv⟩ := results_run hs'.env hs'.mem hres
      have hpost : a'.defers = [] ∧ ∃ v', (Go.results fn a'.tmps).run P w' = .ok v' w' ∧ (∃ m' c, Ending.returned v' = .returned c ∧ ValRel m' v c ∧ MemRel m' M'' w' ∧ Fr m M w m' M'' w') :=
        ⟨hs'.defers, cv, hr, m', cv, rfl, hv, hs'.mem, hf'⟩
      rcases hex with rfl | rfl
      · exact hpost
      · exact hpost
    · cases h
  · cases h

theorem evCall_ok (hdraw : DrawSound P) (hp : progOk P = true) {L : Lib} (hL : LibOk P L) (K : Nat) : ∀ n, CallOk P (evCall P L K n) := by
  intro n
  induction n with
  | zero => intro f args M v M' h; cases h
  | succ n ih =>
    intro f args M v M' h
    rw [evCall_succ] at h
    unfold stepCall at h
    split at h
    · rename_i g hg
      exact ⟨(hL f g hg).1, (hL f g hg).2 args M v M' h⟩
    · exact runFunc_calls hdraw hp ih h

/-- No memory at all stands for any world. -/
theorem memRel_empty (w : World) : MemRel (fun _ _ => none) Mem.empty w :=
  ⟨fun _ _ _ h => (by cases h), fun _ _ _ _ _ _ h => (by cases h), fun _ _ h => (by rw [Mem.get_empty] at h; cases h)⟩

end
end Go.VE
