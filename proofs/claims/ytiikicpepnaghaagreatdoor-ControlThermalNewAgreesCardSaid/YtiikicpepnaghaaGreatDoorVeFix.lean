/-
  The evaluator without a bound on rounds: its equations for loops and calls.
-/
import Derived.Test.YtiikicpepnaghaaGreatDoorVeW
namespace Go.VE

/-- A row of answers that grows to an answer. -/
structure Cv {β : Type} (a : Nat → Option β) (w : Option β) : Prop where
  mono : ∀ i r, a i = some r → a (i + 1) = some r
  up : ∀ i r, a i = some r → w = some r
  down : ∀ r, w = some r → ∃ i, a i = some r

namespace Cv
variable {β γ : Type}

theorem mono_le {a : Nat → Option β} {w : Option β} (h : Cv a w) {i : Nat} {r : β} (hi : a i = some r) : ∀ j, i ≤ j → a j = some r := by
  intro j hj
  induction hj with
  | refl => exact hi
  | step _ ih => exact h.mono _ _ ih

theorem const (w : Option β) : Cv (fun _ => w) w := ⟨fun _ _ h => h, fun _ _ h => h, fun _ h => ⟨0, h⟩⟩

theorem of_none {a : Nat → Option β} {w : Option β} (h : ∀ i, a i = none) (hw : w = none) : Cv a w :=
  ⟨fun i r hi => (by rw [h] at hi; cases hi), fun i r hi => (by rw [h] at hi; cases hi), fun r hi => (by rw [hw] at hi; cases hi)⟩

/-- Two steps: the one below the other. -/
theorem two {x y : Option β} (h : ∀ r, x = some r → y = some r) : Cv (fun i => Nat.rec (motive := fun _ => Option β) x (fun _ _ => y) i) y where
  mono i r hi := by cases i with
    | zero => exact h r hi
    | succ i => exact hi
  up i r hi := by cases i with
    | zero => exact h r hi
    | succ i => exact hi
  down r hi := ⟨1, hi⟩

theorem bind {a : Nat → Option β} {w : Option β} (h : Cv a w) {k : Nat → β → Option γ} {kw : β → Option γ} (hk : ∀ x, Cv (fun i => k i x) (kw x)) : Cv (fun i => (a i).bind (k i)) (w.bind kw) where
  mono i r hi := by
    cases ha : a i with
    | none => simp only [ha] at hi; cases hi
    | some x =>
      simp only [ha] at hi
      simp only [h.mono i x ha]
      exact (hk x).mono i r hi
  up i r hi := by
    cases ha : a i with
    | none => simp only [ha] at hi; cases hi
    | some x =>
      simp only [ha] at hi
      rw [h.up i x ha]
      exact (hk x).up i r hi
  down r hi := by
    cases hw : w with
    | none => rw [hw] at hi; cases hi
    | some x =>
      rw [hw] at hi
      obtain ⟨i, h1⟩ := h.down x hw
      obtain ⟨j, h2⟩ := (hk x).down r hi
      refine ⟨max i j, ?_⟩
      simp only [h.mono_le h1 (max i j) (Nat.le_max_left _ _)]
      exact (hk x).mono_le h2 (max i j) (Nat.le_max_right _ _)

end Cv

/-- A row of continuations. -/
def CvK (a : Nat → Kn) (w : Kn) : Prop := ∀ e M, Cv (fun i => a i e M) (w e M)
def CvX (a : Nat → Nat → Kn) (w : Nat → Kn) : Prop := ∀ j, CvK (fun i => a i j) (w j)
def CvC (a : Nat → Caller) (w : Caller) : Prop := ∀ f args M, Cv (fun i => a i f args M) (w f args M)

theorem CvK.const (k : Kn) : CvK (fun _ => k) k := fun _ _ => Cv.const _
theorem CvX.const (k : Nat → Kn) : CvX (fun _ => k) k := fun _ _ _ => Cv.const _
theorem CvC.const (c : Caller) : CvC (fun _ => c) c := fun _ _ _ => Cv.const _

section
variable {P : Program}

theorem callK_bind (k : AVal → Mem → Res) (r : Option (AVal × Mem)) : callK k r = r.bind (fun p => k p.1 p.2) := by
  cases r <;> rfl

theorem cv_onOp {C : Nat → Caller} {c : Caller} (hC : CvC C c) (M : Mem) (r : OpR) {k : Nat → AVal → Mem → Res} {kw : AVal → Mem → Res} (hk : ∀ v M', Cv (fun i => k i v M') (kw v M')) :
    Cv (fun i => onOpK (C i) M (k i) r) (onOpK c M kw r) := by
  cases r with
  | val v M' => exact hk v M'
  | call f args =>
    show Cv (fun i => callK (k i) (C i f args M)) (callK kw (c f args M))
    simp only [callK_bind]
    exact (hC f args M).bind (fun p => hk p.1 p.2)
  | fail => exact Cv.const none

theorem cv_guard (g : Option Bool) {n y : Nat → Res} {nw yw : Res} (hn : Cv n nw) (hy : Cv y yw) : Cv (fun i => onGuardK g (n i) (y i)) (onGuardK g nw yw) := by
  cases g with
  | none => exact Cv.const none
  | some b => cases b with
    | true => exact hy
    | false => exact hn

theorem cv_ops {C : Nat → Caller} {c : Caller} (hC : CvC C c) (ops : Array Oper) {k : Nat → Kn} {kw : Kn} (hk : CvK k kw) : ∀ l, CvK (fun i => opsK P (C i) ops (k i) l) (opsK P c ops kw l) := by
  intro l
  induction l with
  | nil => exact hk
  | cons o l ih =>
    intro e M
    exact cv_guard _ (ih _ _) (cv_onOp hC M _ (fun v M' => ih _ _))

theorem cv_still (b : Bool) {k : Nat → Res} {kw : Res} (hk : Cv k kw) : Cv (fun i => onStillK b (k i)) (onStillK b kw) := by
  cases b with
  | true => exact hk
  | false => exact Cv.const none

theorem cv_draw {C : Nat → Caller} {c : Caller} (hC : CvC C c) (ops : Array Oper) (bits : List Nat) {k : Nat → Kn} {kw : Kn} (hk : CvK k kw) : ∀ l rs, CvK (fun i => drawK P (C i) ops bits (k i) l rs) (drawK P c ops bits kw l rs) := by
  intro l
  induction l with
  | nil => intro rs; exact hk
  | cons i l ih =>
    intro rs e M
    show Cv (fun n => Option.casesOn (motive := fun _ => Res) ops[i]? none (fun o =>
      stepK (C n) M (guardF ops e o.guard) (evOpR P (evalF e) M o.op)
        (fun v M' => kindK P (kindOf P o) (skipB (guardF ops e o.guard)) M' v (bits.getD i 0) i o.op e rs (fun rs' => drawK P (C n) ops bits (k n) l rs' (fput e o.dst v) M')))) (Option.casesOn (motive := fun _ => Res) ops[i]? none (fun o =>
      stepK c M (guardF ops e o.guard) (evOpR P (evalF e) M o.op)
        (fun v M' => kindK P (kindOf P o) (skipB (guardF ops e o.guard)) M' v (bits.getD i 0) i o.op e rs (fun rs' => drawK P c ops bits kw l rs' (fput e o.dst v) M'))))
    cases ops[i]? with
    | none => exact Cv.const none
    | some o =>
      have hk : ∀ v M', Cv (fun n => kindK P (kindOf P o) (skipB (guardF ops e o.guard)) M' v (bits.getD i 0) i o.op e rs (fun rs' => drawK P (C n) ops bits (k n) l rs' (fput e o.dst v) M'))
          (kindK P (kindOf P o) (skipB (guardF ops e o.guard)) M' v (bits.getD i 0) i o.op e rs (fun rs' => drawK P c ops bits kw l rs' (fput e o.dst v) M')) := by
        intro v M'
        cases kindOf P o with
        | pure => exact ih rs _ _
        | alloc => exact ih rs _ _
        | read => exact ih _ _ _
        | act => exact cv_still _ (ih rs _ _)
      exact cv_guard _ (hk _ _) (cv_onOp hC M _ hk)

theorem cv_cond (v : AVal) {x y : Nat → Res} {xw yw : Res} (hx : Cv x xw) (hy : Cv y yw) : Cv (fun i => condK v (x i) (y i)) (condK v xw yw) := by
  unfold condK
  split
  · exact hx
  · exact hy
  · exact Cv.const none

/-- Steps that keep rows growing. -/
def CvF (F : Nat → Kn → Kn) (Fw : Kn → Kn) : Prop := ∀ (a : Nat → Kn) (w : Kn), CvK a w → CvK (fun i => F i (a i)) (Fw w)

theorem CvF.le {F : Kn → Kn} (hF : CvF (fun _ => F) F) {x y : Kn} (h : ∀ e M r, x e M = some r → y e M = some r) : ∀ e M r, F x e M = some r → F y e M = some r := by
  intro e M r hr
  have h1 : CvK (fun i => (Nat.rec (motive := fun _ => Kn) x (fun _ _ => y) i : Kn)) y := by
    intro e M
    have := Cv.two (h e M)
    refine ⟨fun i r hi => ?_, fun i r hi => ?_, fun r hi => ⟨1, hi⟩⟩
    · cases i with
      | zero => exact h e M r hi
      | succ i => exact hi
    · cases i with
      | zero => exact h e M r hi
      | succ i => exact hi
  exact (hF _ _ h1 e M).up 0 r hr

theorem lpN_succ (F : Kn → Kn) (n : Nat) : lpN F (n + 1) = F (lpN F n) := rfl

theorem lpN_mono {F : Kn → Kn} (hF : CvF (fun _ => F) F) : ∀ n e M r, lpN F n e M = some r → lpN F (n + 1) e M = some r := by
  intro n
  induction n with
  | zero => intro e M r h; cases h
  | succ n ih =>
    intro e M r h
    rw [lpN_succ] at h ⊢
    exact hF.le ih e M r h

theorem cv_lpW {F : Kn → Kn} (hF : CvF (fun _ => F) F) : CvK (fun n => lpN F n) (lpW F) := by
  intro e M
  have hle : ∀ n r, lpN F n e M = some r → ∀ j, n ≤ j → lpN F j e M = some r := by
    intro n r h j hj
    induction hj with
    | refl => exact h
    | step _ ih => exact lpN_mono hF _ _ _ _ ih
  refine ⟨fun n r h => lpN_mono hF n e M r h, fun n r h => ?_, fun r h => lpW_inv h⟩
  unfold lpW
  have hex : ∃ n r, lpN F n e M = some r := ⟨n, r, h⟩
  rw [dif_pos hex]
  obtain ⟨r', hr'⟩ := hex.choose_spec
  have h1 := hle _ _ hr' (max hex.choose n) (Nat.le_max_left _ _)
  have h2 := hle _ _ h (max hex.choose n) (Nat.le_max_right _ _)
  rw [hr']
  rw [h1] at h2
  exact h2

/-- A loop is its body, and then itself. -/
theorem lpW_fix {F : Kn → Kn} (hF : CvF (fun _ => F) F) : lpW F = F (lpW F) := by
  funext e M
  have h1 := hF _ _ (cv_lpW hF) e M
  have h0 := cv_lpW hF e M
  cases hw : lpW F e M with
  | some r =>
    obtain ⟨n, hn⟩ := h0.down r hw
    have := lpN_mono hF n e M r hn
    exact (h1.up n r this).symm
  | none =>
    cases hf : F (lpW F) e M with
    | none => rfl
    | some r =>
      obtain ⟨n, hn⟩ := h1.down r hf
      have := h0.up (n + 1) r hn
      rw [hw] at this
      cases this

theorem cv_lpW_fam {F : Nat → Kn → Kn} {Fw : Kn → Kn} (hF : CvF F Fw) (hi : ∀ i, CvF (fun _ => F i) (F i)) (hw : CvF (fun _ => Fw) Fw) : CvK (fun i => lpW (F i)) (lpW Fw) := by
  have hk : ∀ k, CvK (fun i => lpN (F i) k) (lpN Fw k) := by
    intro k
    induction k with
    | zero => exact fun e M => Cv.const none
    | succ k ih => exact hF _ _ ih
  intro e M
  refine ⟨fun i r h => ?_, fun i r h => ?_, fun r h => ?_⟩
  · obtain ⟨k, h⟩ := lpW_inv h
    exact (cv_lpW (hi (i + 1)) e M).up k r ((hk k e M).mono i r h)
  · obtain ⟨k, h⟩ := lpW_inv h
    exact (cv_lpW hw e M).up k r ((hk k e M).up i r h)
  · obtain ⟨k, h⟩ := lpW_inv h
    obtain ⟨i, h⟩ := (hk k e M).down r h
    exact ⟨i, (cv_lpW (hi i) e M).up k r h⟩

theorem cv_code : ∀ (b : Code) {C : Nat → Caller} {c : Caller}, CvC C c → ∀ {kn : Nat → Kn} {knw : Kn}, CvK kn knw → ∀ {kx : Nat → Nat → Kn} {kxw : Nat → Kn}, CvX kx kxw → ∀ {kr : Nat → Kn} {krw : Kn}, CvK kr krw →
    CvK (fun i => codeK P (C i) b (kn i) (kx i) (kr i)) (codeK P c b knw kxw krw) := by
  intro b
  induction b with
  | skip => intro C c hC kn knw hn kx kxw hx kr krw hr; exact hn
  | label _ => intro C c hC kn knw hn kx kxw hx kr krw hr; exact hn
  | ret => intro C c hC kn knw hn kx kxw hx kr krw hr; exact hr
  | exit id => intro C c hC kn knw hn kx kxw hx kr krw hr; exact hx id
  | region id ops draw =>
    intro C c hC kn knw hn kx kxw hx kr krw hr
    cases draw with
    | false => exact cv_ops hC ops hn _
    | true => exact cv_draw hC ops _ hn _ _
  | seq a b iha ihb => intro C c hC kn knw hn kx kxw hx kr krw hr; exact iha hC (ihb hC hn hx hr) hx hr
  | cond x a b iha ihb => intro C c hC kn knw hn kx kxw hx kr krw hr e M; exact cv_cond _ (iha hC hn hx hr e M) (ihb hC hn hx hr e M)
  | block id b ih =>
    intro C c hC kn knw hn kx kxw hx kr krw hr
    refine ih hC hn (fun j e M => ?_) hr
    show Cv (fun i => (Bool.rec (motive := fun _ => Res) (kx i j e M) (kn i e M) (Nat.beq j id) : Res)) (Bool.rec (motive := fun _ => Res) (kxw j e M) (knw e M) (Nat.beq j id))
    cases Nat.beq j id with
    | true => exact hn e M
    | false => exact hx j e M
  | loop b ih =>
    intro C c hC kn knw hn kx kxw hx kr krw hr
    exact cv_lpW_fam (F := fun i self => codeK P (C i) b self (kx i) (kr i)) (Fw := fun self => codeK P c b self kxw krw) (fun a w ha => ih hC ha hx hr)
      (fun i a w ha => ih (CvC.const _) ha (CvX.const _) (CvK.const _)) (fun a w ha => ih (CvC.const _) ha (CvX.const _) (CvK.const _))
  | rangeFunc _ _ _ _ => intro C c hC kn knw hn kx kxw hx kr krw hr e M; exact Cv.const none
  | scope _ _ => intro C c hC kn knw hn kx kxw hx kr krw hr e M; exact Cv.const none
  | goto _ => intro C c hC kn knw hn kx kxw hx kr krw hr e M; exact Cv.const none
  | refuse _ => intro C c hC kn knw hn kx kxw hx kr krw hr e M; exact Cv.const none

/-- A loop in code: its body, and then itself. -/
theorem loopK_fix (call : Caller) (b : Code) (kn : Kn) (kx : Nat → Kn) (kr : Kn) : codeK P call (.loop b) kn kx kr = codeK P call b (codeK P call (.loop b) kn kx kr) kx kr :=
  lpW_fix (F := fun self => codeK P call b self kx kr) (fun _ _ ha => cv_code b (CvC.const _) ha (CvX.const _) (CvK.const _))

theorem cv_runFunc {C : Nat → Caller} {c : Caller} (hC : CvC C c) (f : FuncId) (args : List AVal) (M : Mem) : Cv (fun i => runFuncK P (C i) f args M) (runFuncK P c f args M) := by
  unfold runFuncK
  cases P.funcs[f]? with
  | none => exact Cv.const none
  | some fn =>
    simp only
    cases fn.body with
    | none => exact Cv.const none
    | some b => exact cv_code b hC (CvK.const _) (CvX.const _) (CvK.const _) _ M

theorem cv_step (L : Lib) {C : Nat → Caller} {c : Caller} (hC : CvC C c) : CvC (fun i => stepCallK P L (C i)) (stepCallK P L c) := by
  intro f args M
  cases hL : L f with
  | some g =>
    have h : ∀ c', stepCallK P L c' f args M = g args M := fun c' => by unfold stepCallK; rw [hL]
    simp only [h]; exact Cv.const _
  | none =>
    have h : ∀ c', stepCallK P L c' f args M = runFuncK P c' f args M := fun c' => by unfold stepCallK; rw [hL]
    simp only [h]; exact cv_runFunc hC f args M

theorem callN_succ (L : Lib) (n : Nat) : callN P L (n + 1) = stepCallK P L (callN P L n) := rfl

theorem callN_mono (L : Lib) : ∀ n f args M r, callN P L n f args M = some r → callN P L (n + 1) f args M = some r := by
  intro n
  induction n with
  | zero => intro f args M r h; cases h
  | succ n ih =>
    intro f args M r h
    rw [callN_succ] at h ⊢
    have hC : CvC (fun i => (Nat.rec (motive := fun _ => Caller) (callN P L n) (fun _ _ => callN P L (n + 1)) i : Caller)) (callN P L (n + 1)) := by
      intro f args M
      refine ⟨fun i r hi => ?_, fun i r hi => ?_, fun r hi => ⟨1, hi⟩⟩
      · cases i with
        | zero => exact ih f args M r hi
        | succ i => exact hi
      · cases i with
        | zero => exact ih f args M r hi
        | succ i => exact hi
    exact (cv_step L hC f args M).up 0 r h

theorem cv_callW (L : Lib) : CvC (fun n => callN P L n) (callW P L) := by
  intro f args M
  have hle : ∀ n r, callN P L n f args M = some r → ∀ j, n ≤ j → callN P L j f args M = some r := by
    intro n r h j hj
    induction hj with
    | refl => exact h
    | step _ ih => exact callN_mono L _ _ _ _ _ ih
  refine ⟨fun n r h => callN_mono L n f args M r h, fun n r h => ?_, fun r h => callW_inv h⟩
  unfold callW
  have hex : ∃ n r, callN P L n f args M = some r := ⟨n, r, h⟩
  rw [dif_pos hex]
  obtain ⟨r', hr'⟩ := hex.choose_spec
  have h1 := hle _ _ hr' (max hex.choose n) (Nat.le_max_left _ _)
  have h2 := hle _ _ h (max hex.choose n) (Nat.le_max_right _ _)
  rw [hr']
  rw [h1] at h2
  exact h2

/-- A call is the function's body, whose calls are calls. -/
theorem callW_fix (L : Lib) : callW P L = stepCallK P L (callW P L) := by
  funext f args M
  have h1 := cv_step (P := P) L (cv_callW (P := P) L) f args M
  have h0 := cv_callW (P := P) L f args M
  cases hw : callW P L f args M with
  | some r =>
    obtain ⟨n, hn⟩ := h0.down r hw
    have := callN_mono L n f args M r hn
    exact (h1.up n r this).symm
  | none =>
    cases hf : stepCallK P L (callW P L) f args M with
    | none => rfl
    | some r =>
      obtain ⟨n, hn⟩ := h1.down r hf
      have := h0.up (n + 1) r hn
      rw [hw] at this
      cases this

theorem callW_run {L : Lib} {f : FuncId} (hL : L f = none) {fn : Func} (hf : P.funcs[f]? = some fn) {b : Code} (hb : fn.body = some b) (args : List AVal) (M : Mem) :
    callW P L f args M = codeK P (callW P L) b (retK P fn.results) noneX (retK P fn.results) (argsF args) M := by
  conv => lhs; rw [callW_fix]
  unfold stepCallK
  rw [hL]
  simp only [runFuncK, hf, hb]

theorem callW_lib {L : Lib} {f : FuncId} {g : List AVal → Mem → Option (AVal × Mem)} (hL : L f = some g) (args : List AVal) (M : Mem) : callW P L f args M = g args M := by
  conv => lhs; rw [callW_fix]
  unfold stepCallK
  rw [hL]

end
end Go.VE
